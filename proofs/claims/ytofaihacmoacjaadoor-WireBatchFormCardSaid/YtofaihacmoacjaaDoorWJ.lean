/- Package wire, and the document's: batches are read. Conditions: none. -/
import Derived.Test.YtofaihacmoacjaaDoorWI
namespace Go.Proofs.YtofaihacmoacjaaDoor.F
open Go Go.VC Go.Proofs
set_option linter.unusedSimpArgs false
set_option linter.unusedVariables false
set_option maxRecDepth 100000
attribute [local irreducible] CallsH RunsTo PureTo

variable {S F G : Nat → Prop} {h0 h h1 : Heap} {L R L' : List A} {a b : Option Addr} {l c l2 c2 p t at_ : Nat} {bs cs : List UInt8} {bss css : List Bytes} {e : Ev} {v : Val} {es fs : List Ev}
/-! ### Four bytes compared -/
theorem part5 {cs : Array Value} {off : Nat} {v : Value} (hv : cs[off]? = some v) (w : World) : (part 5 cs off).run Tryd.prog w = .ok v w := by
  have e : (isAgg 5).run Tryd.prog w = .ok false w := by kernel_rfl
  unfold part
  rw [Sem.run_bind, e, Result.andThen_ok]
  simp [hv]
theorem und104 : Tryd.prog.underlying 104 = some (.array 4 5) := by kernel_rfl
theorem und5 : Tryd.prog.underlying 5 = some (.int .u8) := by kernel_rfl
theorem items5 (d : Nat) (w : World) (xs ys : Array Value) : ∀ (is : List Nat) (bx bY : Bytes), (∀ (k : Nat) i, is[k]? = some i → ∃ x y, bx[k]? = some x ∧ bY[k]? = some y ∧ xs[i]? = some (byteV x) ∧ ys[i]? = some (byteV y)) → bx.length = is.length → bY.length = is.length →
    (Op.eqItems (d + 1) 5 1 xs ys is).run Tryd.prog w = .ok (decide (bx = bY)) w
  | [], bx, bY, _, h1, h2 => by
    have e1 : bx = [] := List.eq_nil_of_length_eq_zero h1
    have e2 : bY = [] := List.eq_nil_of_length_eq_zero h2
    subst e1 e2
    simp [Op.eqItems]
  | i :: is, bx, bY, hk, h1, h2 => by
    obtain ⟨x, y, e1, e2, e3, e4⟩ := hk 0 i rfl
    cases bx with
    | nil => cases e1
    | cons x' bx =>
      cases bY with
      | nil => cases e2
      | cons y' bY =>
        simp at e1 e2
        subst e1 e2
        have ih := items5 d w xs ys is bx bY (fun k i hi => by
          obtain ⟨x, y, q1, q2, q3, q4⟩ := hk (k + 1) i (by simpa using hi)
          exact ⟨x, y, by simpa using q1, by simpa using q2, q3, q4⟩) (by simpa using h1) (by simpa using h2)
        have p1 : (part 5 xs (i * 1)).run Tryd.prog w = .ok (byteV x') w := part5 (by rw [Nat.mul_one]; exact e3) w
        have p2 : (part 5 ys (i * 1)).run Tryd.prog w = .ok (byteV y') w := part5 (by rw [Nat.mul_one]; exact e4) w
        have p3 : (Op.equalIn (d + 1) 5 (byteV x') (byteV y')).run Tryd.prog w = .ok ((x'.toNat : Int) == (y'.toNat : Int)) w := run_equalIn_int w d 5 .u8 .u8 _ _ und5
        simp only [Op.eqItems, Sem.run_bind, p1, p2, p3, Result.andThen_ok]
        by_cases hxy : x' = y'
        · subst hxy
          simp only [beq_self_eq_true, Bool.not_true, Bool.false_eq_true, if_false, ih]
          simp
        · have hne : ((x'.toNat : Int) == (y'.toNat : Int)) = false := by
            rw [beq_eq_false_iff_ne]
            intro h
            exact hxy (UInt8.toNat_inj.1 (by omega))
          rw [hne]
          simp [hxy]
theorem bytes4_neq {x y : Bytes} {o1 o2 : Operand} {K : Value → Prop} (hx : x.length = 4) (hy : y.length = 4) (q : K (.bool (!decide (x = y)))) : PureTo Tryd.prog (do eqGuard .neq 104 o1 o2 (aggB x) (aggB y); binOp .neq 104 (aggB x) (aggB y)) K := by
  refine PureTo.ok (fun w => ?_) q
  obtain ⟨i, hi⟩ := info_of_underlying und5
  have hc : Tryd.prog.cellsOf 5 = 1 := by kernel_rfl
  have h4 := items5 9998 w (bytesV x).toArray (bytesV y).toArray (List.range 4) x y (fun k j hk => by
    have hk4 : k < 4 := by
      have := (List.getElem?_eq_some_iff.1 hk).1
      simpa using this
    rw [List.getElem?_range hk4] at hk
    cases hk
    exact ⟨_, _, List.getElem?_eq_getElem (by omega), List.getElem?_eq_getElem (by omega), by simp [bytesV, List.getElem?_eq_getElem (show k < x.length by omega)], by simp [bytesV, List.getElem?_eq_getElem (show k < y.length by omega)]⟩) (by simpa using hx) (by simpa using hy)
  rw [Sem.run_bind, run_eqGuard_agg w .neq 104 o1 o2 _ _ (by kernel_rfl), Result.andThen_ok, run_neq_struct, run_equalIn_array (P := Tryd.prog) w 9999 _ _ und104 hi, hc, h4]
  rfl
/-! ### The end of reading -/
theorem unpack_bad (h1 : bs.length ≤ 1048576) (h2 : 5 ≤ bs.length) (h3 : sumB (bs.take (bs.length - 4)) = bs.drop (bs.length - 4)) {e : Int} {x : List Ev} (h4 : StepR batR (bs.take (bs.length - 4)) 0 0 x at_ e) (he : e ≠ 0) : unpackR bs = ([], e) := by
  unfold unpackR
  rw [if_neg (by omega), if_neg (by omega), if_neg (fun h => h h3)]
  rcases h4.ok with ⟨n, q1, q2, q3⟩ | ⟨q1, q2⟩
  · exact absurd q3 he
  · rw [List.drop_zero] at q1
    rw [q1]
theorem unpack_good (h1 : bs.length ≤ 1048576) (h2 : 5 ≤ bs.length) (h3 : sumB (bs.take (bs.length - 4)) = bs.drop (bs.length - 4)) (h4 : StepR batR (bs.take (bs.length - 4)) 0 0 es at_ 0) : unpackR bs = if at_ < bs.length - 4 then ([], 31) else (es, 0) := by
  unfold unpackR
  rw [if_neg (by omega), if_neg (by omega), if_neg (fun h => h h3)]
  rcases h4.ok with ⟨n, q1, q2, q3⟩ | ⟨q1, q2⟩
  · rw [List.drop_zero] at q1
    rw [q1, q2, Nat.zero_add]
  · exact absurd rfl q2
theorem unpack_spec (hw : Wd none_ h) (hs : Sl h a (bytesV bs)) (hl : bs.length = l) (hlc : l ≤ c) : CallsH Tryd.prog 31 #[.slice a l c] h
    (fun v h' => ∃ a' c', v = .tuple #[.slice a' (unpackR bs).1.length c', .int .i64 (unpackR bs).2] ∧ St none_ h h' [LE a' (unpackR bs).1.length c' (unpackR bs).1]) := by
  refine vf31 _ _ _ h _ ?_
  unfold F31
  have k := St.fresh h
  have bad : ∀ {h' : Heap} {L : List A} (f : Int), St none_ h h' L → unpackR bs = ([], f) → ∃ a' c', (Value.tuple #[.slice none 0 0, .int .i64 f]) = .tuple #[.slice a' (unpackR bs).1.length c', .int .i64 (unpackR bs).2] ∧ St none_ h h' [LE a' (unpackR bs).1.length c' (unpackR bs).1] := fun f k e1 => by
    rw [e1]
    exact ⟨none, 0, rfl, St.only (St.lenil k)⟩
  refine cond_split (fun hc => ?_) (fun hc => ?_)
  · have hc : 1048576 < bs.length := by
      have : (l : Int) > 1048576 := of_decide_eq_true hc
      omega
    exact bad 2 k (by unfold unpackR; rw [if_pos hc])
  have hbig : ¬ 1048576 < bs.length := by
    have : ¬ (l : Int) > 1048576 := of_decide_eq_false hc
    omega
  refine cond_split (fun hc => ?_) (fun hc => ?_)
  · have hc : bs.length < 5 := by
      have : (l : Int) < 5 := of_decide_eq_true hc
      omega
    exact bad 30 k (by unfold unpackR; rw [if_neg hbig, if_pos hc])
  have h5 : ¬ bs.length < 5 := by
    have : ¬ (l : Int) < 5 := of_decide_eq_false hc
    omega
  clear hc
  have ew : IntKind.i64.wrap ((l : Int) - 4) = ((l - 4 : Nat) : Int) := by rw [wrap_id (by omega) (by omega)]; omega
  rw [ew]
  refine whole_cut (lo := 0) (by omega) ?_
  refine hs.ro.bcut hl (lo := l - 4) (hi := l) (mx := c) rfl rfl rfl (by omega) (by omega) (by omega) (by omega) fun a2 r2 hlen2 => ?_
  rw [drop_take_all hl] at r2 hlen2
  have hlen4 : (bs.drop (l - 4)).length = 4 := by omega
  refine PureTo.ok (fun w => run_arrayAt w 104 5 4 a2 (l - (l - 4)) (c - (l - 4)) und104 (by omega)) ⟨_, rfl, ?_⟩
  generalize hsum4 : bs.drop (l - 4) = s4 at r2 hlen4 hlen2
  match s4, hlen4 with
  | [s0, s1, s2, s3], _ =>
  have hr2 := r2
  obtain ⟨ad, rfl, d0, _⟩ := r2 0 (byteV s0) rfl
  have dj : ∀ (j : Nat) x, (bytesV [s0, s1, s2, s3])[j + 1]? = some x → cellH h ⟨ad.block, ad.off + (j + 1), none⟩ = some x := fun j x hx => by
    obtain ⟨ad', e1, e2, _⟩ := hr2 (j + 1) x hx
    cases e1
    rw [addN_eq] at e2
    exact e2
  have d0 : cellH h ad = some (byteV s0) := by rw [addN_eq] at d0; exact d0
  refine VSome.mk ⟨_, d0, _, dj 0 _ rfl, _, dj 1 _ rfl, _, dj 2 _ rfl, ?_⟩
  have hbody : Sl h a (bytesV (bs.take (l - 4))) := by
    have := (hs.ro.take (l - 4)).sl
    have e : (bytesV bs).take (l - 4) = bytesV (bs.take (l - 4)) := by simp [bytesV, List.map_take]
    rwa [e] at this
  have hbl : (bs.take (l - 4)).length = l - 4 := by rw [List.length_take]; omega
  refine CallsH.mono (sum_spec hbody hbl (by omega)) ?_
  rintro _ h11 ⟨rfl, m⟩
  have k := k.next m
  refine ⟨_, _, _, _, rfl, ⟨cellH_mod d0 m id, cellH_mod (dj 0 _ rfl) m id, cellH_mod (dj 1 _ rfl) m id, cellH_mod (dj 2 _ rfl) m id⟩, ?_⟩
  refine bytes4_neq (x := sumB (bs.take (l - 4))) (y := [s0, s1, s2, s3]) rfl rfl ⟨_, rfl, cond_split (fun hc => ?_) (fun hc => ?_)⟩
  · have hc : sumB (bs.take (l - 4)) ≠ [s0, s1, s2, s3] := by simpa using hc
    refine bad 32 k ?_
    unfold unpackR
    rw [if_neg hbig, if_neg h5, hl, hsum4, if_pos hc]
  have hsum : sumB (bs.take (l - 4)) = [s0, s1, s2, s3] := by simpa using hc
  have hsum : sumB (bs.take (bs.length - 4)) = bs.drop (bs.length - 4) := by rw [hl, hsum4]; exact hsum
  clear hc
  have hE1 := @unpack_bad
  refine k.vnew fun b18 h19 k => ?_
  have k : St none_ h h19 [RdrA 92 b18 a (l - 4) c 0 0] := k
  obtain ⟨F', G, k1, kG, d, hF, back⟩ := k.frameA
  have r : RdOk none_ h a (l - 4) c (bs.take (l - 4)) 0 := ⟨hbody.ro, hbl, by omega, by omega, Nat.zero_le _⟩
  refine CallsH.mono (number_step k1 (r.at k.ext hF (Nat.zero_le _))) ?_
  rintro _ h21 ⟨n, at1, e1, rfl, hat1, s1', hz1, k2⟩
  have k := back k2
  clear back k1 kG d hF
  have hn := s1'.rng hz1 (by omega) (by omega) (by omega)
  obtain ⟨N, rfl⟩ : ∃ N : Nat, n = N := ⟨n.toNat, by omega⟩
  refine ⟨_, rfl, ?_⟩
  refine ⟨fun n h' ea el ec i => ∃ (xs : List Ev) (at2 : Nat) (e2 : Int), i = (xs.length : Int) ∧ el = xs.length ∧ xs.length ≤ N ∧ n = N - xs.length ∧ at2 ≤ l - 4 ∧ StepR (rep evR xs.length) (bs.take (l - 4)) at1 e1 xs at2 e2 ∧ St none_ h h' [RdrA 92 b18 a (l - 4) c at2 e2, LE ea xs.length ec xs], ⟨_, [], at1, e1, rfl, rfl, by simp, rfl, hat1, .ret _, (St.lenil k).pull1⟩, ?_⟩
  clear k
  rintro n h25 _ ea _ ec _ ⟨xs, at2, e2, rfl, rfl, hxN, rfl, hat2, s2', k⟩
  refine cond_split (fun hc => ?_) (fun hc => ?_)
  · have hlt : xs.length < N := Int.ofNat_lt.1 (of_decide_eq_true hc)
    obtain ⟨F', G, k1, kG, d, hF, back⟩ := k.frame2
    refine CallsH.mono (event_step (hw.at k.ext hF) k1 (r.at k.ext hF hat2)) ?_
    rintro _ h31 ⟨x, a', c', at3, e3, rfl, hat3, s3', hvl, k2⟩
    have k := back k2
    clear back k1 kG d hF
    refine ⟨_, _, _, _, _, rfl, k.vnew fun b35 h36 k => ?_⟩
    have k := k.sel 4 [0, 2, 3, 1] rfl (by decide) (L' := [A.blk b35 (seV ⟨a', c', x⟩).toArray 27, VSe ⟨a', c', x⟩, LE ea xs.length ec xs, _]) (by rfl)
    refine app_ev k (by omega) fun a2 c2 h38 k => ⟨_, _, _, rfl, N - (xs.length + 1), by omega, xs ++ [x], at3, e3, ?_, by simp, by simp; omega, by simp, hat3, ?_, ?_⟩
    · rw [List.length_append, wrap_id (by omega) (by omega)]; simp
    · rw [List.length_append]
      exact s2'.snoc s3'
    · rw [List.length_append]
      exact k.pull1
  · have hlt : xs.length = N := by
      have : ¬ (xs.length : Int) < N := of_decide_eq_false hc
      omega
    clear hc
    have s4' : StepR batR (bs.take (l - 4)) 0 0 xs at2 e2 := s1'.bind (by
      show StepR (rep evR (N : Int).toNat) _ _ _ _ _ _
      rw [Int.toNat_natCast, ← hlt]; exact s2')
    rw [← hl] at s4'
    have E1 : e2 ≠ 0 → unpackR bs = ([], e2) := fun he => unpack_bad (by omega) (by omega) hsum s4' he
    have E2 : e2 = 0 → unpackR bs = if at2 < bs.length - 4 then ([], 31) else (xs, 0) := fun he => by
      subst he
      exact unpack_good (by omega) (by omega) hsum s4'
    refine ⟨fun h' => ∃ e3 : Int, St none_ h h' [RdrA 92 b18 a (l - 4) c at2 e3, LE ea xs.length ec xs] ∧ (e3 = 0 → unpackR bs = (xs, 0)) ∧ (e3 ≠ 0 → unpackR bs = ([], e3)), ⟨_, k.rd (by rfl), ?_⟩, ?_⟩
    · refine cond_split (fun hc => ?_) (fun hc => ?_)
      · have hc : at2 < l - 4 := Int.ofNat_lt.1 (of_decide_eq_true hc)
        obtain ⟨F', G, k1, kG, d, hF, back⟩ := k.frameA
        refine CallsH.mono (fail_spec k1 31) ?_
        rintro _ h7 ⟨rfl, k2⟩
        refine ⟨rfl, _, back k2, ?_, ?_⟩
        · intro h
          by_cases he : e2 = 0
          · rw [if_pos he] at h; cases h
          · rw [if_neg he] at h; exact absurd h he
        · intro h
          by_cases he : e2 = 0
          · rw [if_pos he, E2 he, if_pos (by omega)]
          · rw [if_neg he, E1 he]
      · have hc : ¬ at2 < l - 4 := fun h => (of_decide_eq_false hc) (Int.ofNat_lt.2 h)
        exact ⟨e2, k, fun he => by rw [E2 he, if_neg (by omega)], E1⟩
    · clear k
      rintro h44 _ ⟨e3, k, q1, q2⟩
      refine ⟨_, k.rd (by rfl), cond_split (fun hc => ?_) (fun hc => ?_)⟩
      · have hc : e3 ≠ 0 := by simpa using hc
        exact ⟨_, k.rd (by rfl), bad e3 k (q2 hc)⟩
      · have hc : e3 = 0 := by simpa using hc
        rw [q1 hc]
        exact ⟨ea, ec, rfl, k.drop⟩
theorem Bad.num {b : Bytes} {e : Int} (h : getN b = .err e) : e ≠ 0 := by have := getN_bad h; omega
/-- Its faults are no zeros. -/
def Bad {α : Type} (f : Bytes → Rd α) : Prop := ∀ b e, f b = .err e → e ≠ 0
theorem Bad.bind {α β : Type} {f : Bytes → Rd α} {g : α → Bytes → Rd β} (h1 : Bad f) (h2 : ∀ x, Bad (g x)) : Bad (bindR f g) := fun b e h => by
  unfold bindR at h
  split at h
  · split at h
    · cases h
    · rename_i _ _ _ _ _ hg
      cases h
      exact h2 _ _ _ hg
  · rename_i _ hf
    cases h
    exact h1 _ _ hf
theorem Bad.ret {α : Type} (x : α) : Bad (retR x) := fun b e h => by cases h
theorem Bad.nb (lo hi : Int) : Bad (numb lo hi) := fun b e h => by
  unfold numb at h
  split at h
  · split at h
    · cases h; omega
    · cases h
  · rename_i _ hg
    cases h
    exact Bad.num hg
theorem Bad.tk (n : Nat) : Bad (takeB n) := fun b e h => by
  unfold takeB at h
  split at h
  · cases h; omega
  · cases h
theorem Bad.one (lo hi : Nat) : Bad (oneR lo hi) := fun b e h => by
  unfold oneR at h
  split at h
  · cases h; omega
  · split at h
    · cases h; omega
    · cases h
theorem Bad.rp {α : Type} {f : Bytes → Rd α} (h : Bad f) : ∀ n, Bad (rep f n)
  | 0 => .ret _
  | n + 1 => .bind h fun _ => .bind (Bad.rp h n) fun _ => .ret _
theorem Bad.text (lo hi : Int) : Bad (textR lo hi) := .bind (.nb _ _) fun _ => .tk _
theorem Bad.val : Bad valR := .bind (.one _ _) fun c => by
  split
  · exact .bind (.nb _ _) fun _ => .ret _
  split
  · exact .bind (.text _ _) fun _ => .ret _
  · exact .bind (.one _ _) fun _ => .ret _
theorem Bad.ev : Bad evR := .bind (.bind (.text _ _) fun t => by
  split
  · exact .ret _
  · intro b e h; cases h; omega) fun _ => .bind (.nb _ _) fun _ => .bind (.nb _ _) fun _ => .bind (.rp .val _) fun _ => .ret _
theorem dec_step {p : Nat} {b : Bytes} : ∃ at2, StepR evR b p 0 (decB (b.drop p)).1 at2 (decB (b.drop p)).2.2 ∧ ((decB (b.drop p)).2.2 = 0 → at2 = p + (decB (b.drop p)).2.1) := by
  unfold decB
  cases h : evR (b.drop p) with
  | ok x n => exact ⟨p + n, .inr (.inl ⟨rfl, n, h, rfl, rfl⟩), fun _ => rfl⟩
  | err e => exact ⟨p, .inr (.inr ⟨rfl, h, Bad.ev _ _ h⟩), fun h0 => absurd h0 (Bad.ev _ _ h)⟩
theorem runpack_spec (hs : Sl h a (bytesV bs)) (hl : bs.length = l) (hlc : l ≤ c) : CallsH Tryd.prog 32 #[.slice a l c] h
    (fun v h' => ∃ a' c', v = .tuple #[.slice a' (unpackR bs).1.length c', .int .i64 (unpackR bs).2] ∧ St none_ h h' [LE a' (unpackR bs).1.length c' (unpackR bs).1]) := by
  refine vf32 _ _ _ h _ ?_
  unfold F32
  have k := St.fresh h
  have bad : ∀ {h' : Heap} {L : List A} (f : Int), St none_ h h' L → unpackR bs = ([], f) → ∃ a' c', (Value.tuple #[.slice none 0 0, .int .i64 f]) = .tuple #[.slice a' (unpackR bs).1.length c', .int .i64 (unpackR bs).2] ∧ St none_ h h' [LE a' (unpackR bs).1.length c' (unpackR bs).1] := fun f k e1 => by
    rw [e1]
    exact ⟨none, 0, rfl, St.only (St.lenil k)⟩
  refine cond_split (fun hc => ?_) (fun hc => ?_)
  · have hc : 1048576 < bs.length := by
      have : (l : Int) > 1048576 := of_decide_eq_true hc
      omega
    exact bad 2 k (by unfold unpackR; rw [if_pos hc])
  have hbig : ¬ 1048576 < bs.length := by
    have : ¬ (l : Int) > 1048576 := of_decide_eq_false hc
    omega
  refine cond_split (fun hc => ?_) (fun hc => ?_)
  · have hc : bs.length < 5 := by
      have : (l : Int) < 5 := of_decide_eq_true hc
      omega
    exact bad 30 k (by unfold unpackR; rw [if_neg hbig, if_pos hc])
  have h5 : ¬ bs.length < 5 := by
    have : ¬ (l : Int) < 5 := of_decide_eq_false hc
    omega
  clear hc
  have ew : IntKind.i64.wrap ((l : Int) - 4) = ((l - 4 : Nat) : Int) := by rw [wrap_id (by omega) (by omega)]; omega
  rw [ew]
  refine whole_cut (lo := 0) (by omega) ?_
  refine hs.ro.bcut hl (lo := l - 4) (hi := l) (mx := c) rfl rfl rfl (by omega) (by omega) (by omega) (by omega) fun a2 r2 hlen2 => ?_
  rw [drop_take_all hl] at r2 hlen2
  have hbody : Sl h a (bytesV (bs.take (l - 4))) := by
    have := (hs.ro.take (l - 4)).sl
    have e : (bytesV bs).take (l - 4) = bytesV (bs.take (l - 4)) := by simp [bytesV, List.map_take]
    rwa [e] at this
  have hbl : (bs.take (l - 4)).length = l - 4 := by rw [List.length_take]; omega
  refine CallsH.mono (rsum_spec hbody hbl (by omega)) ?_
  rintro _ h4 ⟨a5, rfl, k2⟩
  have k := k.add1 k2
  refine ⟨_, _, _, rfl, ?_⟩
  refine CallsH.mono (rsame_spec (k.sl (a := a5)) rfl (r2.sl.ext k.ext) hlen2 (by omega)) ?_
  rintro _ _ ⟨rfl, rfl⟩
  refine ⟨_, rfl, cond_split (fun hc => ?_) (fun hc => ?_)⟩
  · have hc : sumB (bs.take (l - 4)) ≠ bs.drop (l - 4) := by simpa using hc
    refine bad 32 k ?_
    unfold unpackR
    rw [if_neg hbig, if_neg h5, hl, if_pos hc]
  have hsum : sumB (bs.take (l - 4)) = bs.drop (l - 4) := by simpa using hc
  have hsum : sumB (bs.take (bs.length - 4)) = bs.drop (bs.length - 4) := by rw [hl]; exact hsum
  clear hc
  refine CallsH.mono (rint_spec (hbody.ext k.ext) hbl (by omega) (by omega)) ?_
  rintro _ h10 ⟨rfl, m⟩
  have k := k.next m
  have ebl : bs.length - 4 = l - 4 := by omega
  cases hg : getN (bs.take (l - 4)) with
  | err f =>
    have hf := Bad.num hg
    refine ⟨_, _, _, rfl, cond_true (by simpa using hf) (bad f k ?_)⟩
    refine unpack_bad (at_ := 0) (x := []) (by omega) (by omega) hsum ?_ hf
    rw [ebl]
    exact StepR.bind (f := numb 0 1024) (x := 0) (.inr (.inr ⟨rfl, numb_bad hg, hf⟩)) (.stay hf)
  | ok n at1 =>
    have hat1 := Form.num.le hg
    rw [hbl] at hat1
    refine ⟨_, _, _, rfl, cond_false rfl ?_⟩
    have out : (n < 0 ∨ 1024 < n) → unpackR bs = ([], 31) := fun hx => by
      refine unpack_bad (at_ := 0) (x := []) (by omega) (by omega) hsum ?_ (by omega)
      rw [ebl]
      refine StepR.bind (f := numb 0 1024) (x := 0) (.inr (.inr ⟨rfl, ?_, by omega⟩)) (.stay (by omega))
      rw [List.drop_zero]
      unfold numb
      rw [hg]
      exact if_pos hx
    refine cond_split (fun hc => bad 31 k (out (.inl (of_decide_eq_true hc)))) (fun hc => cond_split (fun hc2 => bad 31 k (out (.inr (of_decide_eq_true hc2)))) (fun hc2 => ?_))
    have n0 : ¬ n < 0 := of_decide_eq_false hc
    have n1 : ¬ 1024 < n := of_decide_eq_false hc2
    obtain ⟨N, rfl⟩ : ∃ N : Nat, n = N := ⟨n.toNat, by omega⟩
    have s1' : StepR (numb 0 1024) (bs.take (l - 4)) 0 0 (N : Int) at1 0 := by
      refine .inr (.inl ⟨rfl, at1, ?_, by omega, rfl⟩)
      rw [List.drop_zero]
      unfold numb
      rw [hg]
      exact if_neg (by omega)
    clear out hc hc2
    refine ⟨fun n h' _ _ _ _ p ea el ec i => ∃ (xs : List Ev) (at2 : Nat), i = (xs.length : Int) ∧ p = (at2 : Int) ∧ el = xs.length ∧ xs.length ≤ N ∧ n = N - xs.length ∧ at2 ≤ l - 4 ∧ StepR (rep evR xs.length) (bs.take (l - 4)) at1 0 xs at2 0 ∧ St none_ h h' [LE ea xs.length ec xs], ⟨_, [], at1, rfl, rfl, rfl, by simp, rfl, hat1, .ret _, St.only (St.lenil k)⟩, ?_⟩
    clear k
    rintro n h25 _ _ _ _ _ _ ea _ ec _ ⟨xs, at2, rfl, rfl, rfl, hxN, rfl, hat2, s2', k⟩
    refine cond_split (fun hc => ?_) (fun hc => ?_)
    · have hlt : xs.length < N := Int.ofNat_lt.1 (of_decide_eq_true hc)
      refine (hbody.ro.in k).bcut hbl (lo := at2) (hi := l - 4) (mx := c) rfl rfl rfl hat2 (Nat.le_refl _) (by omega) (Nat.le_refl _) fun a24 r24 hlen24 => ?_
      rw [drop_take_all hbl] at r24 hlen24
      refine CallsH.mono (rdecode_spec r24.sl hlen24 (by omega) (by omega)) ?_
      rintro _ h26 ⟨a29, c29, rfl, k2⟩
      have k := k.add1 k2
      obtain ⟨at3, s3', hat3⟩ := dec_step (p := at2) (b := bs.take (l - 4))
      have hdl : (decB ((bs.take (l - 4)).drop at2)).2.2 = 0 → (decB ((bs.take (l - 4)).drop at2)).2.1 ≤ l - 4 - at2 := fun h0 => by
        unfold decB at h0 ⊢
        cases hev : evR ((bs.take (l - 4)).drop at2) with
        | ok x n =>
          have := Form.ev.le hev
          show n ≤ _
          rw [hlen24] at this; exact this
        | err e => exact Nat.zero_le _
      have hvl := noEv_of (b := (bs.take (l - 4)).drop at2)
      generalize (decB ((bs.take (l - 4)).drop at2)).1 = x at *
      generalize (decB ((bs.take (l - 4)).drop at2)).2.1 = dn at *
      generalize (decB ((bs.take (l - 4)).drop at2)).2.2 = de at *
      refine ⟨_, _, _, _, _, _, _, rfl, k.vnew fun b32 h33 k => k.vall (by rfl) (by rfl) fun h34 k => cond_split (fun hc => ?_) (fun hc => ?_)⟩
      · have hc : de ≠ 0 := by simpa using hc
        refine bad de k (unpack_bad (at_ := at3) (x := []) (by omega) (by omega) hsum ?_ hc)
        rw [ebl]
        refine s1'.bind (x := (N : Int)) ?_
        show StepR (rep evR (N : Int).toNat) _ _ _ _ _ _
        rw [Int.toNat_natCast]
        exact (s2'.snoc s3').skip (by omega) hc
      · have hc : de = 0 := by simpa using hc
        subst hc
        have hat3 := hat3 rfl
        have hdl := hdl rfl
        subst hat3
        refine ⟨_, k.rd (by rfl), _, k.rd (by rfl), _, _, _, k.rd (by rfl), k.vnew fun b38 h39 k => ?_⟩
        have k := k.sel 4 [0, 2, 3, 1] rfl (by decide) (L' := [A.blk b38 (seV ⟨a29, c29, x⟩).toArray 27, VSe ⟨a29, c29, x⟩, LE ea xs.length ec xs, _]) (by rfl)
        refine app_ev k (by omega) fun a2 c2 h38 k => ⟨_, _, _, rfl, N - (xs.length + 1), by omega, xs ++ [x], at2 + dn, ?_, ?_, by simp, by simp; omega, by simp, by omega, ?_, ?_⟩
        · rw [List.length_append, wrap_id (by omega) (by omega)]; simp
        · rw [wrap_id (by omega) (by omega)]; omega
        · rw [List.length_append]
          exact s2'.snoc s3'
        · rw [List.length_append]
          exact k.only
    · have hlt : xs.length = N := by
        have : ¬ (xs.length : Int) < N := of_decide_eq_false hc
        omega
      clear hc
      have s4' : StepR batR (bs.take (l - 4)) 0 0 xs at2 0 := s1'.bind (by
        show StepR (rep evR (N : Int).toNat) _ _ _ _ _ _
        rw [Int.toNat_natCast, ← hlt]; exact s2')
      rw [← ebl] at s4'
      have E2 := unpack_good (by omega) (by omega) hsum s4'
      refine cond_split (fun hc => ?_) (fun hc => ?_)
      · have hc : at2 < l - 4 := Int.ofNat_lt.1 (of_decide_eq_true hc)
        exact bad 31 k (by rw [E2, if_pos (by omega)])
      · have hc : ¬ at2 < l - 4 := fun h => (of_decide_eq_false hc) (Int.ofNat_lt.2 h)
        rw [E2, if_neg (by omega)]
        exact ⟨ea, ec, rfl, k⟩
end Go.Proofs.YtofaihacmoacjaaDoor.F
