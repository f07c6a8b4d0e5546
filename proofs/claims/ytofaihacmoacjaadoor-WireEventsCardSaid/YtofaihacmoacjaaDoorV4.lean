/- Verification conditions: every operation's condition is enough. Conditions: none. -/
import Derived.Test.YtofaihacmoacjaaDoorV3
namespace Go.VC
open Go

theorem optI.ex {e : Env} {x : Option Operand} {d : Int} {K : Int → Prop} (h : optI e x d K) : ∃ n, K n ∧ ((x = none ∧ n = d) ∨ ∃ o k, x = some o ∧ opnd e o = .int k n) := by
  cases x with
  | none => exact ⟨d, h, .inl ⟨rfl, rfl⟩⟩
  | some o =>
    simp only [optI] at h
    split at h
    · rename_i k n hn; exact ⟨n, h, .inr ⟨o, k, rfl, hn⟩⟩
    · exact h.elim
theorem bound_run {P : Program} {k : IntKind} {i y : Nat} (hy : i ≤ y) (code : BoundsCode) (w : World) : (Instr.sliceBound (.int k (i : Int)) y code).run P w = .ok i w := by
  have h : (0 : Int) ≤ (i : Int) ∧ (i : Int) ≤ (y : Int) := ⟨by omega, by omega⟩
  simp only [Instr.sliceBound, asIntOf, Sem.run_bind, Sem.run_pure, Result.andThen_ok, Sem.run_ite]
  rw [if_pos h]; simp
theorem bounds_run {P : Program} {e : Env} {lo hi mx : Option Operand} {isS : Bool} {len cap l h m : Nat} {nl nh nm : Int}
    (hl : (lo = none ∧ nl = 0) ∨ ∃ o k, lo = some o ∧ opnd e o = .int k nl) (hh : (hi = none ∧ nh = len) ∨ ∃ o k, hi = some o ∧ opnd e o = .int k nh)
    (hm : (mx = none ∧ nm = cap) ∨ ∃ o k, mx = some o ∧ opnd e o = .int k nm) (el : nl = l) (eh : nh = h) (em : nm = m) (h1 : l ≤ h) (h2 : h ≤ m) (h3 : m ≤ cap)
    (hmh : mx = none ∨ hi ≠ none) (w : World) :
    (Instr.sliceBounds isS len cap (lo.map (opnd e)) (hi.map (opnd e)) (mx.map (opnd e))).run P w = .ok (l, h, m) w := by
  subst el eh em
  rcases hm with ⟨rfl, em⟩ | ⟨om, km, rfl, em⟩ <;> rcases hh with ⟨rfl, eh⟩ | ⟨oh, kh, rfl, eh⟩ <;> rcases hl with ⟨rfl, el⟩ | ⟨ol, kl, rfl, el⟩
  all_goals first
    | (exfalso; rcases hmh with h | h; (· cases h; done); (· exact h rfl))
    | skip
  all_goals
    (try (have em1 : m = cap := by omega
          clear em; subst em1))
    (try (have eh1 : h = len := by omega
          clear eh; subst eh1))
    (try (have el1 : l = 0 := by omega
          clear el; subst el1))
    simp only [Instr.sliceBounds, Option.map_none, Option.map_some, Sem.run_bind, Sem.run_pure, Result.andThen_ok, *, bound_run h1, bound_run h2, bound_run h3]
theorem slice_runs {P : Program} {e : Env} {t el : TypeId} {sz : Nat} {a : Option Addr} {l c : Nat} {lo hi mx : Option Operand} {K : Value → Prop}
    (hu : P.underlying t = some (.slice el)) (hs : sizeP P el = some sz) (hmh : mx = none ∨ hi ≠ none)
    (hk : optI e lo 0 fun lo => optI e hi l fun hi => optI e mx c fun mx => VSlice sz a c lo hi mx fun a' l' c' => K (.slice a' l' c')) :
    PureTo P (Instr.sliceAt t (.slice a l c) (lo.map (opnd e)) (hi.map (opnd e)) (mx.map (opnd e))) K := by
  obtain ⟨nl, hk, hl⟩ := optI.ex hk
  obtain ⟨nh, hk, hh⟩ := optI.ex hk
  obtain ⟨nm, ⟨l', h', m', el', eh', em', h1, h2, h3, hk⟩, hm⟩ := optI.ex hk
  refine .ok (fun w => ?_) hk
  have hb := bounds_run (P := P) (isS := true) hl hh hm el' eh' em' h1 h2 h3 hmh w
  simp only [Instr.sliceAt, Instr.slice, Sem.run_bind, und_run hu, Result.andThen_ok, hb, size_run hs, Sem.run_pure]
theorem sliceS_runs {P : Program} {e : Env} {t : TypeId} {s : ByteArray} {lo hi : Option Operand} {K : Value → Prop}
    (hu : P.underlying t = some .string)
    (hk : optI e lo 0 fun lo => optI e hi s.size fun hi => VSliceS s lo hi fun s' => K (.string s')) :
    PureTo P (Instr.sliceAt t (.string s) (lo.map (opnd e)) (hi.map (opnd e)) ((none : Option Operand).map (opnd e))) K := by
  obtain ⟨nl, hk, hl⟩ := optI.ex hk
  obtain ⟨nh, ⟨l', h', el', eh', h1, h2, hk⟩, hh⟩ := optI.ex hk
  refine .ok (fun w => ?_) hk
  have hb := bounds_run (P := P) (isS := false) (mx := none) (cap := s.size) (nm := s.size) (m := s.size) hl hh (.inl ⟨rfl, rfl⟩) el' eh' rfl h1 h2 (Nat.le_refl _) (.inl rfl) w
  simp only [Option.map_none] at hb
  simp only [Instr.sliceAt, Instr.slice, Sem.run_bind, und_run hu, Result.andThen_ok, Option.map_none, Option.isSome_none, Bool.false_eq_true, if_false, hb, Sem.run_pure]
theorem sliceA_runs {P : Program} {e : Env} {t el : TypeId} {n sz : Nat} {a : Addr} {lo hi mx : Option Operand} {K : Value → Prop}
    (hu : P.underlying t = some (.array n el)) (hs : sizeP P el = some sz) (hmh : mx = none ∨ hi ≠ none)
    (hk : optI e lo 0 fun lo => optI e hi n fun hi => optI e mx n fun mx => VSlice sz (some a) n lo hi mx fun a' l' c' => K (.slice a' l' c')) :
    PureTo P (Instr.sliceAt t (.pointer (some a)) (lo.map (opnd e)) (hi.map (opnd e)) (mx.map (opnd e))) K := by
  obtain ⟨nl, hk, hl⟩ := optI.ex hk
  obtain ⟨nh, hk, hh⟩ := optI.ex hk
  obtain ⟨nm, ⟨l', h', m', el', eh', em', h1, h2, h3, hk⟩, hm⟩ := optI.ex hk
  refine .ok (fun w => ?_) hk
  have hb := bounds_run (P := P) (isS := false) hl hh hm el' eh' em' h1 h2 h3 hmh w
  simp only [Instr.sliceAt, Instr.sureAddr, Sem.run_bind, und_run hu, Result.andThen_ok, hb, size_run hs, Sem.run_pure]
  split <;> rfl
theorem index_runs {P : Program} {t el : TypeId} {sz : Nat} {a : Option Addr} {len c : Nat} {k : IntKind} {i : Int} {K : Value → Prop}
    (hu : P.underlying t = some (.slice el)) (hs : sizeP P el = some sz) (hk : VIdx a len i sz fun ad => K (.pointer (some ad))) :
    PureTo P (Instr.indexAt t (.slice a len c) (.int k i)) K := by
  obtain ⟨h0, h1, hk⟩ := hk
  obtain ⟨ad, rfl, hk⟩ := hk.ex
  refine .ok (fun w => ?_) hk
  simp only [Instr.indexAt, asIntOf, Sem.run_bind, Sem.run_pure, Result.andThen_ok, und_run hu, Sem.run_ite]
  rw [if_pos ⟨h0, h1⟩]
  simp only [size_run hs, Result.andThen_ok]
theorem indexA_runs {P : Program} {t el : TypeId} {sz : Nat} {a : Option Addr} {len : Nat} {k : IntKind} {i : Int} {K : Value → Prop}
    (hu : P.underlying t = some (.array len el)) (hs : sizeP P el = some sz) (hk : VIdx a len i sz fun ad => K (.pointer (some ad))) :
    PureTo P (Instr.indexAt t (.pointer a) (.int k i)) K := by
  obtain ⟨h0, h1, hk⟩ := hk
  obtain ⟨ad, rfl, hk⟩ := hk.ex
  refine .ok (fun w => ?_) hk
  simp only [Instr.indexAt, asIntOf, Instr.sureAddr, Sem.run_bind, Sem.run_pure, Result.andThen_ok, und_run hu, Sem.run_ite]
  rw [if_pos ⟨h0, h1⟩]
  simp only [size_run hs, Result.andThen_ok]
theorem fieldAt_runs {P : Program} {s : TypeId} {f off : Nat} {ft : TypeId} {a : Addr} {K : Value → Prop} (hf : fieldOf P s f = some (off, ft))
    (hk : K (.pointer (some (addN a off)))) : PureTo P (Instr.fieldAt s (.pointer (some a)) f) K := by
  refine .ok (fun w => ?_) hk
  unfold fieldOf at hf
  split at hf
  · rename_i fs hu
    split at hf
    · rename_i x hx
      split at hf
      · rename_i i hi
        split at hf
        · cases hf
        · rename_i n hn
          cases hf
          have hz : sizeP P x.type = some i.size := by simp [sizeP, hi]
          have hn' : i.size ≠ 0 := fun e => hn e
          simp only [Instr.fieldAt, Sem.run_bind, und_run hu, Result.andThen_ok, hx, Instr.sureAddr, Sem.run_pure, fieldPlace, size_run hz, hn', if_false, addN_eq]
      · cases hf
    · cases hf
  · cases hf
theorem fill_runs {P : Program} {t : TypeId} {parts : List (Nat × Value)} {cells : Array Value} (h : buildV P t parts = some cells) (w : World) :
    (Instr.build t parts.toArray).run P w = .ok (.agg cells) w := by
  unfold buildV at h
  split at h
  · rename_i z fs hz hu
    split at h
    · rename_i places hp
      have hm : (fs.mapM fun f => do pure (f.offset, ← sizeOf f.type) : Sem (Array (Nat × Nat))).run P w = .ok places.toArray w := by
        have key : ∀ (l : List Field) (ps : List (Nat × Nat)), partsOf P l = some ps → (l.mapM fun f => do pure (f.offset, ← sizeOf f.type) : Sem (List (Nat × Nat))).run P w = .ok ps w := by
          intro l
          induction l with
          | nil => intro ps hps; simp [partsOf] at hps; subst hps; rfl
          | cons f r ih =>
            intro ps hps
            simp only [partsOf] at hps
            split at hps
            · rename_i i l' hi hl
              cases hps
              have hs : sizeP P f.type = some i.size := by simp [sizeP, hi]
              simp only [List.mapM_cons, Sem.run_bind, size_run hs, Result.andThen_ok, Sem.run_pure, ih _ hl]
            · cases hps
        have h2 := key fs.toList places hp
        rw [← Array.toArray_toList (xs := fs)]
        rw [List.mapM_toArray]
        simp only [Sem.run_map, h2, Result.andThen_ok]
      simp only [Instr.build, Sem.run_bind, zero_run hz, Result.andThen_ok, und_run hu, hm, h, Sem.run_pure]
    · cases h
  · rename_i z n el hz hu
    split at h
    · rename_i size hs
      simp only [Instr.build, Sem.run_bind, zero_run hz, Result.andThen_ok, und_run hu, size_run hs, h, Sem.run_pure]
    · cases h
  · cases h
theorem fillSlice_runs {P : Program} {t el : TypeId} {len : Nat} {parts : List (Nat × Value)} {cells : Array Value} (h : buildSliceV P t len parts = some (cells, el)) (w : World) :
    (Instr.buildSlice t len parts.toArray).run P w = .ok (.slice (some ⟨w.heap.size, 0, none⟩) len len) { w with heap := w.heap.push (.cells cells el) } := by
  unfold buildSliceV at h
  split at h
  · rename_i el' hu
    split at h
    · rename_i i hi
      have hs : sizeP P el' = some i.size := by simp [sizeP, hi]
      split at h
      · rename_i hz
        have hz' : len * i.size = 0 := Nat.eq_of_beq_eq_true hz
        split at h
        · rename_i c hc
          cases h
          simp only [Instr.buildSlice, Sem.run_bind, und_run hu, Result.andThen_ok, size_run hs, hz', show ¬ (0 > 2 ^ 24) by decide, if_false, if_true, Sem.run_pure, show Array.range 0 = #[] from rfl, Array.map_empty, hc, newRow, run_newObj, Sem.run_ite]
        · cases h
      · rename_i hz
        have hz' : len * i.size ≠ 0 := fun e => by rw [e] at hz; cases hz
        split at h
        · rename_i z hb hzz
          have hb' : len * i.size ≤ 16777216 := Nat.le_of_ble_eq_true hb
          have hzero : (P.info? el').bind (·.zero) = some z := by simp [hi, hzz]
          split at h
          · rename_i c hc
            cases h
            simp only [Instr.buildSlice, Sem.run_bind, und_run hu, Result.andThen_ok, size_run hs, show ¬ (len * i.size > 2 ^ 24) by omega, if_false, hz', Sem.run_pure, zero_run hzero, hc, newRow, run_newObj, Sem.run_ite]
          · cases h
        · cases h
    · cases h
  · cases h

theorem builtin_runs {P : Program} {b : Builtin} {ats : Array TypeId} {t : TypeId} {cs : Array Bool} {args : Array Value} {K : Value → Prop} (hk : vcBuiltin P b ats args K) :
    ∃ s : Sem Value, builtin b ats t cs args = (do pure (Next.value (← s))) ∧ PureTo P s K := by
  have l1 : ∀ {α : Type} {xs : Array α} {x : α}, xs.toList = [x] → xs = #[x] := fun {α xs x} h => by
    cases xs; simp at h; subst h; rfl
  have l2 : ∀ {α : Type} {xs : Array α} {x y : α}, xs.toList = [x, y] → xs = #[x, y] := fun {α xs x y} h => by
    cases xs; simp at h; subst h; rfl
  unfold vcBuiltin at hk
  split at hk
  · refine ⟨_, rfl, ?_⟩
    split at hk
    · rename_i ty x h1 h2
      have e1 := l1 h1; have e2 := l1 h2; subst e1 e2
      split at hk
      · rename_i s hu; exact .ok (fun w => by simp [Builtin.len_, und_run hu, goInt]) hk
      · rename_i n e hu; exact .ok (fun w => by simp [Builtin.len_, und_run hu, goInt]) hk
      · rename_i e a n c hu; exact .ok (fun w => by simp [Builtin.len_, und_run hu, goInt]) hk
      · exact hk.elim
    · exact hk.elim
  · refine ⟨_, rfl, ?_⟩
    split at hk
    · rename_i ty x h1 h2
      have e1 := l1 h1; have e2 := l1 h2; subst e1 e2
      split at hk
      · rename_i e a n c hu; exact .ok (fun w => by simp [Builtin.cap_, und_run hu, goInt]) hk
      · exact hk.elim
    · exact hk.elim
  · refine ⟨_, rfl, ?_⟩
    split at hk
    · rename_i k x k' y h1
      have e1 := l2 h1; subst e1
      exact .ok (fun w => by simp [Builtin.min_, Builtin.min2, minI]) hk
    · exact hk.elim
  · refine ⟨_, rfl, ?_⟩
    split at hk
    · rename_i k x k' y h1
      have e1 := l2 h1; subst e1
      exact .ok (fun w => by simp [Builtin.max_, Builtin.max2, maxI]) hk
    · exact hk.elim
  · exact hk.elim

set_option maxHeartbeats 2000000 in
theorem vcPure_sound {P : Program} {o : Oper} {e : Env} {K : Value → Prop} (hk : vcPure P o e K) : Plain P o e K := by
  obtain ⟨dst, op, type, pos, after, guard⟩ := o
  cases op with
  | move x => exact .of_value rfl hk
  | assign x => exact .of_value rfl hk
  | pick c a b =>
    simp only [vcPure, VBool] at hk
    split at hk
    · rename_i t ht
      cases t
      · exact .of_value (v := opnd e b) (by simp only [execOp, ht, asBool]; rfl) hk
      · exact .of_value (v := opnd e a) (by simp only [execOp, ht, asBool]; rfl) hk
    · exact hk.elim
  | build t parts =>
    simp only [vcPure] at hk
    split at hk
    · rename_i cells hc
      refine .of_pure (s := Instr.build t (parts.map fun (i, x) => (i, opnd e x))) rfl ?_
      refine .ok (fun w => ?_) hk
      have := fill_runs hc w
      simpa [partsV, ← Array.toList_map] using this
    · exact hk.elim
  | nilCheck x =>
    simp only [vcPure] at hk
    split at hk
    · rename_i p hp
      obtain ⟨a, rfl, hk⟩ := hk.ex
      exact .of_value (by simp only [execOp, hp]) hk
    · rename_i f fs cs hp
      exact .of_value (by simp only [execOp, hp]) hk
    · exact hk.elim
  | binOp op t x y yt =>
    exact .of_pure (s := do eqGuard op t x y (opnd e x) (opnd e y); binOp op t (opnd e x) (opnd e y)) rfl (bin_runs hk)
  | unOp op t x =>
    simp only [vcPure] at hk
    refine .of_pure (s := Op.unary op (opnd e x)) rfl ?_
    split at hk
    · rename_i b hb; rw [hb]; exact .ok (fun w => rfl) hk
    · rename_i k n hb; rw [hb]; exact .ok (fun w => rfl) hk
    · rename_i k n hb; rw [hb]; exact .ok (fun w => rfl) hk
    · exact hk.elim
  | convert src dt x =>
    simp only [vcPure] at hk
    refine .of_pure (s := convert src dt (opnd e x)) rfl ?_
    split at hk
    · rename_i k' k n hd hu hx
      refine .ok (fun w => ?_) hk
      simp only [convert, Sem.run_bind, und_run hd, und_run hu, Result.andThen_ok, hx]; rfl
    · rename_i s hd hu hx
      refine .ok (fun w => ?_) hk
      simp only [convert, Sem.run_bind, und_run hd, und_run hu, Result.andThen_ok, hx]; rfl
    · exact hk.elim
  | sliceToArrayPointer arr x =>
    exact .of_pure (s := Instr.arrayAt arr (opnd e x)) rfl (PureTo.mono (R := fun v => ∃ a : Option Addr, v = .pointer a ∧ K (.pointer a)) hk fun v ⟨a, e, k⟩ => by subst e; exact k)
  | makeFunc fn first captured => exact .of_pure (s := Instr.makeFunc fn (first.map (opnd e)) (captured.map (opnd e))) rfl (.ok (fun _ => rfl) hk)
  | slice t x lo hi mx =>
    simp only [vcPure] at hk
    refine .of_pure (s := Instr.sliceAt t (opnd e x) (lo.map (opnd e)) (hi.map (opnd e)) (mx.map (opnd e))) rfl ?_
    split at hk
    · exact hk.elim
    · rename_i hb
      have hmh : mx = none ∨ hi ≠ none := by
        cases mx <;> cases hi <;> simp at hb ⊢
      split at hk
      · rename_i el a l c hu hx
        rw [hx]
        split at hk
        · rename_i sz hs
          exact slice_runs hu hs hmh hk
        · exact hk.elim
      · rename_i s hu hx
        rw [hx]
        split at hk
        · exact sliceS_runs hu hk
        · exact hk.elim
      · rename_i n el p hu hx
        rw [hx]
        obtain ⟨a, rfl, hk⟩ := hk.ex
        split at hk
        · rename_i sz hs
          exact sliceA_runs hu hs hmh hk
        · exact hk.elim
      · exact hk.elim
  | fieldAddr s x f =>
    simp only [vcPure] at hk
    split at hk
    · rename_i p off ft hp hf
      obtain ⟨a, rfl, hk⟩ := hk.ex
      exact .of_pure (s := Instr.fieldAt s (opnd e x) f) rfl (by rw [hp]; exact fieldAt_runs hf hk)
    · exact hk.elim
  | field s x f => exact .of_pure (s := Instr.field s (opnd e x) f) rfl (PureTo.of_any hk)
  | indexAddr t x ix =>
    simp only [vcPure] at hk
    refine .of_pure (s := Instr.indexAt t (opnd e x) (opnd e ix)) rfl ?_
    split at hk
    · rename_i el a len c k i hu hx hi
      rw [hx, hi]
      split at hk
      · rename_i sz hs; exact index_runs hu hs hk
      · exact hk.elim
    · rename_i n el p k i hu hx hi
      rw [hx, hi]
      split at hk
      · rename_i sz hs; exact indexA_runs hu hs hk
      · exact hk.elim
    · exact hk.elim
  | index t x ix =>
    simp only [vcPure] at hk
    refine .of_pure (s := Instr.index t (opnd e x) (opnd e ix)) rfl ?_
    split at hk
    · rename_i s k i hu hx hi
      rw [hx, hi]
      obtain ⟨h0, b, hb, hk⟩ := hk
      refine .ok (fun w => ?_) hk
      simp only [Instr.index, asIntOf, Sem.run_bind, Sem.run_pure, Result.andThen_ok, und_run hu, h0, if_true, hb]
    · exact PureTo.of_any hk
  | extract x i =>
    simp only [vcPure] at hk
    refine .of_pure (s := Instr.extract (opnd e x) i) rfl ?_
    split at hk
    · rename_i vs hx
      rw [hx]
      split at hk
      · rename_i v hv; exact .ok (fun w => by simp [Instr.extract, hv]) hk
      · exact hk.elim
    · exact hk.elim
  | call c =>
    obtain ⟨callee, args, ats⟩ := c
    cases callee with
    | value f => exact hk.elim
    | invoke r m => exact hk.elim
    | builtin b =>
      obtain ⟨s, e1, hr⟩ := builtin_runs (cs := args.map fun | .const _ => true | _ => false) (t := type) hk
      have : execOp (opnd e) ⟨dst, .call ⟨.builtin b, args, ats⟩, type, pos, after, guard⟩ = builtin b ats type (args.map fun | .const _ => true | _ => false) (args.map (opnd e)) := rfl
      exact .of_pure (this.trans e1) hr
  | _ => exact hk.elim

set_option maxHeartbeats 2000000 in
theorem vcOp_sound {P : Program} {o : Oper} {e : Env} {h : Heap} {K : KV} (hk : vcOp P o e h K) : OpTo P o e h K := by
  unfold vcOp at hk
  split at hk
  · exact (vcPure_sound hk).to
  obtain ⟨dst, op, type, pos, after, guard⟩ := o
  cases op with
  | alloc t =>
    simp only at hk
    split at hk
    · rename_i z hz
      refine .of_runs (s := Instr.alloc t true (.tuple #[])) rfl ?_
      intro w hw
      refine ⟨.pointer (some ⟨w.heap.size, 0, none⟩), { w with heap := w.heap.push (.cells z.cells t) }, ?_, ⟨rfl, rfl, rfl⟩, ?_⟩
      · simp [Instr.alloc, zero_run hz, newVar, newRow]
      · rw [hw]; exact hk
    · exact hk.elim
  | box t x =>
    refine .of_runs (s := Instr.box t (opnd e x)) rfl ?_
    intro w hw
    refine ⟨.pointer (some ⟨w.heap.size, 0, none⟩), { w with heap := w.heap.push (.cells (opnd e x).cells t) }, ?_, ⟨rfl, rfl, rfl⟩, ?_⟩
    · simp [Instr.box, newVar, newRow]
    · rw [hw]; exact hk
  | buildSlice t len parts =>
    simp only at hk
    split at hk
    · rename_i cells el hc
      refine .of_runs (s := Instr.buildSlice t len (parts.map fun (i, x) => (i, opnd e x))) rfl ?_
      intro w hw
      refine ⟨.slice (some ⟨w.heap.size, 0, none⟩) len len, { w with heap := w.heap.push (.cells cells el) }, ?_, ⟨rfl, rfl, rfl⟩, ?_⟩
      · have := fillSlice_runs hc w
        simpa [partsV, ← Array.toList_map] using this
      · rw [hw]; exact hk
    · exact hk.elim
  | load t x =>
    simp only at hk
    split at hk
    · rename_i p hp
      obtain ⟨a, rfl, hk⟩ := hk.ex
      exact .of_runs (s := Instr.loadAt t (opnd e x)) rfl (by rw [hp]; exact load_runs hk)
    · exact hk.elim
  | store t x y =>
    simp only at hk
    split at hk
    · rename_i p hp
      obtain ⟨a, rfl, hk⟩ := hk.ex
      intro w hw n ac ha next Q hn
      obtain ⟨w', e1, r, k⟩ := store_runs hk hw
      unfold Oper.wp
      rw [ha.eval]
      have : execOp (opnd e) ⟨dst, .store t x y, type, pos, after, guard⟩ = (do Instr.storeAt t (opnd e x) (opnd e y); pure Next.skip) := rfl
      rw [this, hp]
      simp only [Sem.run_bind, e1, Result.andThen_ok, Sem.run_pure, Oper.upon]
      exact hn undef w' r k
    · exact hk.elim
  | makeSlice t l c => exact .of_runs (s := Instr.makeSlice t (opnd e l) (opnd e c)) rfl (RunsTo.of_any hk)
  | convert src dt x => exact .of_runs (s := convert src dt (opnd e x)) rfl (RunsTo.of_any hk)
  | call c =>
    obtain ⟨callee, args, ats⟩ := c
    cases callee with
    | value f =>
      cases f with
      | func f =>
        refine .of_call (fun w => ?_) hk
        simp [execOp, resolve, opnd, Deferred.ofValue, invoke]
      | tmp t =>
        simp only [VInvoke] at hk
        split at hk
        · rename_i f fs cs hf
          refine .of_call (fun w => ?_) hk
          simp [execOp, resolve, Deferred.ofValue, invoke, hf]
        · exact hk.elim
      | const v =>
        simp only [VInvoke] at hk
        split at hk
        · rename_i f fs cs hf
          refine .of_call (fun w => ?_) hk
          simp [execOp, resolve, Deferred.ofValue, invoke, hf]
        · exact hk.elim
      | global g => simp only [VInvoke, opnd] at hk
    | invoke r m => exact hk.elim
    | builtin b =>
      cases b with
      | append => exact .of_runs (s := Builtin.append_ ats type (args.map (opnd e))) rfl (RunsTo.of_any hk)
      | _ => exact hk.elim
  | _ => exact hk.elim
end Go.VC
