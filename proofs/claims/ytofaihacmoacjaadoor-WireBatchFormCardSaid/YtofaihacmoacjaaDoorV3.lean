/- Verification conditions: what one operation asks is enough. Conditions: none. -/
import Derived.Test.YtofaihacmoacjaaDoorV2
namespace Go.VC
open Go

theorem und_run {P : Program} {t : TypeId} {d : TypeDesc} (h : P.underlying t = some d) (w : World) : (underlying t).run P w = .ok d w := by
  simp [underlying, h]
theorem info_run {P : Program} {t : TypeId} {i : TypeInfo} (h : P.info? t = some i) (w : World) : (typeInfo t).run P w = .ok i w := by
  simp [typeInfo, h]
theorem zero_run {P : Program} {t : TypeId} {z : Value} (h : (P.info? t).bind (·.zero) = some z) (w : World) : (zeroValue t).run P w = .ok z w := by
  cases hi : P.info? t with
  | none => simp [hi] at h
  | some i => simp [hi] at h; simp [zeroValue, typeInfo, hi, h]
theorem size_run {P : Program} {t : TypeId} {n : Nat} (h : sizeP P t = some n) (w : World) : (sizeOf t).run P w = .ok n w := by
  cases hi : P.info? t with
  | none => simp [sizeP, hi] at h
  | some i => simp [sizeP, hi] at h; simp [sizeOf, typeInfo, hi, h]
theorem agg_run {P : Program} {t : TypeId} {b : Bool} (h : isAggP P t = some b) (w : World) : (isAgg t).run P w = .ok b w := by
  unfold isAggP at h
  cases hu : P.underlying t with
  | none => simp [hu] at h
  | some d =>
    simp only [hu] at h
    cases d <;> simp at h <;> simp [isAgg, underlying, hu, h]

theorem load_runs {P : Program} {t : TypeId} {a : Addr} {h : Heap} {K : KV} (hk : vcLoad P t a h K) : RunsTo P (Instr.loadAt t (.pointer (some a))) h K := by
  unfold vcLoad at hk
  cases hi : P.info? t with
  | none => simp [hi] at hk
  | some i =>
    simp only [hi] at hk
    split at hk
    · rename_i zs ha hz
      split at hk
      · rename_i hs
        have hs' : i.size = zs.size := Nat.eq_of_beq_eq_true hs
        obtain ⟨vs, hl, hj, hK⟩ := loadL.ex _ _ _ _ _ hk
        intro w hw
        refine ⟨.agg vs.toArray, w, ?_, .refl w, hw ▸ hK⟩
        have hlc := run_loadCells_list (P := P) w a vs (fun j v hv => by
          have := hj j v hv
          rw [Nat.zero_add] at this
          rw [addN_eq, cell_eq, hw]; exact this)
        have hsz : i.size = vs.length := by rw [hs', hl]; simp
        simp only [Instr.loadAt, Instr.sureAddr, loadVar, Sem.run_bind, Sem.run_pure, Result.andThen_ok, agg_run ha, if_true, sizeOf, info_run hi, hsz, hlc]
      · exact hk.elim
    · rename_i z ha hz
      obtain ⟨v, hc, hK⟩ := anyLike.ex hk
      intro w hw
      refine ⟨v, w, ?_, .refl w, hw ▸ hK⟩
      simp [Instr.loadAt, Instr.sureAddr, loadVar, agg_run ha, cell_eq, hw, hc]
    · exact hk.elim
theorem store_runs {P : Program} {t : TypeId} {a : Addr} {v : Value} {h : Heap} {K : Heap → Prop} (hk : vcStore P t a v h K) {w : World} (hw : w.heap = h) :
    ∃ w', (Instr.storeAt t (.pointer (some a)) v).run P w = .ok () w' ∧ Rest w w' ∧ K w'.heap := by
  unfold vcStore at hk
  cases hi : P.info? t with
  | none => simp [hi] at hk
  | some i =>
    simp only [hi] at hk
    split at hk
    · rename_i cs
      split at hk
      · rename_i hs
        have hs' : i.size = cs.size := Nat.eq_of_beq_eq_true hs
        obtain ⟨w', e1, r, k⟩ := storeL.run (P := P) hk hw
        refine ⟨w', ?_, r, k⟩
        simp [Instr.storeAt, Instr.sureAddr, storeVar, sizeOf, info_run hi, hs', Value.cells, e1]
      · exact hk.elim
    · rename_i hna
      split at hk
      · rename_i hs
        have hs' : i.size = 1 := Nat.eq_of_beq_eq_true hs
        obtain ⟨w', e1, r, k⟩ := storeOne.run (P := P) hk hw
        have hc : v.cells = #[v] := by
          cases v <;> first | rfl | exact absurd rfl (hna _)
        refine ⟨w', ?_, r, k⟩
        have ha0 : a.add 0 = a := by simp [Addr.add]
        simp [Instr.storeAt, Instr.sureAddr, storeVar, sizeOf, info_run hi, hs', hc, storeCells, ha0, e1]
      · exact hk.elim

theorem bin_runs_int {P : Program} {op : BinOp} {t : TypeId} {k k' : IntKind} {a b : Int} {K : Value → Prop}
    (hk : (match op with
    | .shl => binInt .shl k a b K
    | .shr => binInt .shr k a b K
    | op => if k = k' then binInt op k a b K else False)) : PureTo P (binOp op t (.int k a) (.int k' b)) K := by
  cases op
  case shl =>
    obtain ⟨h0, hk⟩ := hk
    refine .ok (fun w => ?_) hk
    show (Op.shift .shl k a k' b).run P w = _
    simp only [Op.shift, show ¬ b < 0 by omega, if_false]; rfl
  case shr =>
    obtain ⟨h0, hk⟩ := hk
    refine .ok (fun w => ?_) hk
    show (Op.shift .shr k a k' b).run P w = _
    simp only [Op.shift, show ¬ b < 0 by omega, if_false]; rfl
  case add =>
    by_cases e : k = k'
    · subst e
      simp only [if_true, binInt] at hk
      refine PureTo.ok (fun w => ?_) hk
      show (if k ≠ k then stuck "BinOp: operands of different kinds" else Op.intArith .add k a b : Sem Value).run P w = _
      rw [if_neg (by simp)]; rfl
    · simp only [e, if_false] at hk
  case sub =>
    by_cases e : k = k'
    · subst e
      simp only [if_true, binInt] at hk
      refine PureTo.ok (fun w => ?_) hk
      show (if k ≠ k then stuck "BinOp: operands of different kinds" else Op.intArith .sub k a b : Sem Value).run P w = _
      rw [if_neg (by simp)]; rfl
    · simp only [e, if_false] at hk
  case mul =>
    by_cases e : k = k'
    · subst e
      simp only [if_true, binInt] at hk
      refine PureTo.ok (fun w => ?_) hk
      show (if k ≠ k then stuck "BinOp: operands of different kinds" else Op.intArith .mul k a b : Sem Value).run P w = _
      rw [if_neg (by simp)]; rfl
    · simp only [e, if_false] at hk
  case quo =>
    by_cases e : k = k'
    · subst e
      simp only [if_true, binInt] at hk
      refine PureTo.ok (fun w => ?_) hk.2
      show (if k ≠ k then stuck "BinOp: operands of different kinds" else Op.intDiv .quo k a b : Sem Value).run P w = _
      rw [if_neg (by simp)]; simp only [Op.intDiv, hk.1, if_false]; rfl
    · simp only [e, if_false] at hk
  case rem =>
    by_cases e : k = k'
    · subst e
      simp only [if_true, binInt] at hk
      refine PureTo.ok (fun w => ?_) hk.2
      show (if k ≠ k then stuck "BinOp: operands of different kinds" else Op.intDiv .rem k a b : Sem Value).run P w = _
      rw [if_neg (by simp)]; simp only [Op.intDiv, hk.1, if_false]; rfl
    · simp only [e, if_false] at hk
  case and =>
    by_cases e : k = k'
    · subst e
      simp only [if_true, binInt] at hk
      refine PureTo.ok (fun w => ?_) hk
      show (if k ≠ k then stuck "BinOp: operands of different kinds" else Op.intBits .and k a b : Sem Value).run P w = _
      rw [if_neg (by simp)]; rfl
    · simp only [e, if_false] at hk
  case or =>
    by_cases e : k = k'
    · subst e
      simp only [if_true, binInt] at hk
      refine PureTo.ok (fun w => ?_) hk
      show (if k ≠ k then stuck "BinOp: operands of different kinds" else Op.intBits .or k a b : Sem Value).run P w = _
      rw [if_neg (by simp)]; rfl
    · simp only [e, if_false] at hk
  case xor =>
    by_cases e : k = k'
    · subst e
      simp only [if_true, binInt] at hk
      refine PureTo.ok (fun w => ?_) hk
      show (if k ≠ k then stuck "BinOp: operands of different kinds" else Op.intBits .xor k a b : Sem Value).run P w = _
      rw [if_neg (by simp)]; rfl
    · simp only [e, if_false] at hk
  case andNot =>
    by_cases e : k = k'
    · subst e
      simp only [if_true, binInt] at hk
      refine PureTo.ok (fun w => ?_) hk
      show (if k ≠ k then stuck "BinOp: operands of different kinds" else Op.intBits .andNot k a b : Sem Value).run P w = _
      rw [if_neg (by simp)]; rfl
    · simp only [e, if_false] at hk
  case eql =>
    by_cases e : k = k'
    · subst e
      simp only [if_true, binInt] at hk
      refine PureTo.ok (fun w => ?_) hk
      show (if k ≠ k then stuck "BinOp: operands of different kinds" else Op.intCmp .eql a b : Sem Value).run P w = _
      rw [if_neg (by simp)]; rfl
    · simp only [e, if_false] at hk
  case neq =>
    by_cases e : k = k'
    · subst e
      simp only [if_true, binInt] at hk
      refine PureTo.ok (fun w => ?_) hk
      show (if k ≠ k then stuck "BinOp: operands of different kinds" else Op.intCmp .neq a b : Sem Value).run P w = _
      rw [if_neg (by simp)]; rfl
    · simp only [e, if_false] at hk
  case lss =>
    by_cases e : k = k'
    · subst e
      simp only [if_true, binInt] at hk
      refine PureTo.ok (fun w => ?_) hk
      show (if k ≠ k then stuck "BinOp: operands of different kinds" else Op.intCmp .lss a b : Sem Value).run P w = _
      rw [if_neg (by simp)]; rfl
    · simp only [e, if_false] at hk
  case leq =>
    by_cases e : k = k'
    · subst e
      simp only [if_true, binInt] at hk
      refine PureTo.ok (fun w => ?_) hk
      show (if k ≠ k then stuck "BinOp: operands of different kinds" else Op.intCmp .leq a b : Sem Value).run P w = _
      rw [if_neg (by simp)]; rfl
    · simp only [e, if_false] at hk
  case gtr =>
    by_cases e : k = k'
    · subst e
      simp only [if_true, binInt] at hk
      refine PureTo.ok (fun w => ?_) hk
      show (if k ≠ k then stuck "BinOp: operands of different kinds" else Op.intCmp .gtr a b : Sem Value).run P w = _
      rw [if_neg (by simp)]; rfl
    · simp only [e, if_false] at hk
  case geq =>
    by_cases e : k = k'
    · subst e
      simp only [if_true, binInt] at hk
      refine PureTo.ok (fun w => ?_) hk
      show (if k ≠ k then stuck "BinOp: operands of different kinds" else Op.intCmp .geq a b : Sem Value).run P w = _
      rw [if_neg (by simp)]; rfl
    · simp only [e, if_false] at hk
theorem equal_pointer_nil {P : Program} {t u : TypeId} (hu : P.underlying t = some (.pointer u)) (a : Option Addr) (w : World) :
    (Op.equal t (.pointer a) (.pointer none)).run P w = .ok a.isNone w := by
  have k : ∀ n, (Op.equalIn (n + 1) t (.pointer a) (.pointer none)).run P w = .ok a.isNone w := fun n => by
    cases a <;> (simp only [Op.equalIn, Sem.run_bind, und_run hu, Result.andThen_ok]; rfl)
  exact k 9999
theorem equal_slice_nil {P : Program} {t u : TypeId} (hu : P.underlying t = some (.slice u)) (a : Option Addr) (l c l' c' : Nat) (w : World) :
    (Op.equal t (.slice a l c) (.slice none l' c')).run P w = .ok a.isNone w := by
  have k : ∀ n, (Op.equalIn (n + 1) t (.slice a l c) (.slice none l' c')).run P w = .ok a.isNone w := fun n => by
    cases a <;> (simp only [Op.equalIn, Sem.run_bind, und_run hu, Result.andThen_ok]; rfl)
  exact k 9999
theorem equal_bool {P : Program} {t : TypeId} (hu : P.underlying t = some .bool) (a b : Bool) (w : World) :
    (Op.equal t (.bool a) (.bool b)).run P w = .ok (a == b) w := by
  have k : ∀ n, (Op.equalIn (n + 1) t (.bool a) (.bool b)).run P w = .ok (a == b) w := fun n => by
    simp only [Op.equalIn, Sem.run_bind, und_run hu, Result.andThen_ok]; rfl
  exact k 9999

theorem guard_plain {P : Program} {op : BinOp} {t : TypeId} {ox oy : Operand} {x y : Value} (w : World)
    (h1 : ¬ (x = .nilIface ∧ y = .nilIface)) (h2 : ¬ (∃ cs ds, x = .agg cs ∧ y = .agg ds)) : (eqGuard op t ox oy x y).run P w = .ok () w := by
  unfold eqGuard
  cases op <;> simp <;> (split <;> first | rfl | (exact absurd ⟨rfl, rfl⟩ h1) | (exact absurd ⟨_, _, rfl, rfl⟩ h2))
theorem bin_runs {P : Program} {op : BinOp} {t : TypeId} {ox oy : Operand} {x y : Value} {K : Value → Prop} (hk : vcBin P op t ox oy x y K) :
    PureTo P (do eqGuard op t ox oy x y; binOp op t x y) K := by
  have plain : ∀ {x y : Value}, ¬ (x = .nilIface ∧ y = .nilIface) → ¬ (∃ cs ds, x = .agg cs ∧ y = .agg ds) → PureTo P (binOp op t x y) K →
      PureTo P (do eqGuard op t ox oy x y; binOp op t x y) K := fun h1 h2 ⟨v, e, k⟩ =>
    ⟨v, fun w => by simp only [Sem.run_bind, guard_plain w h1 h2, Result.andThen_ok, e], k⟩
  unfold vcBin at hk
  split at hk
  · exact plain (by simp) (by simp) (bin_runs_int hk)
  · rename_i a b
    refine plain (by simp) (by simp) ?_
    split at hk
    · exact .ok (fun w => rfl) hk
    · exact .ok (fun w => rfl) hk
    · refine .ok (fun w => ?_) hk.2
      have h1 := hk.1
      show (if ((a.size + b.size : Nat) : Int) > IntKind.i64.max then _ else _ : Sem Value).run P w = _
      rw [if_neg (by simp [IntKind.max, IntKind.signed, IntKind.bits]; omega)]; rfl
    · exact PureTo.mono hk fun v ⟨c, e, k⟩ => by subst e; exact k
  · refine plain (by simp) (by simp) ?_
    split at hk
    · rename_i hu; refine .ok (fun w => ?_) hk; show (do let c ← Op.equal t _ _; pure (Value.bool c) : Sem Value).run P w = _; simp only [Sem.run_bind, equal_bool hu, Result.andThen_ok, Sem.run_pure]
    · rename_i hu; refine .ok (fun w => ?_) hk; show (do let c ← Op.equal t _ _; pure (Value.bool (!c)) : Sem Value).run P w = _; simp only [Sem.run_bind, equal_bool hu, Result.andThen_ok, Sem.run_pure]
    · exact hk.elim
  · refine plain (by simp) (by simp) ?_
    split at hk
    · rename_i hu; refine .ok (fun w => ?_) hk; show (do let c ← Op.equal t _ _; pure (Value.bool c) : Sem Value).run P w = _; simp only [Sem.run_bind, equal_pointer_nil hu, Result.andThen_ok, Sem.run_pure]
    · rename_i hu; refine .ok (fun w => ?_) hk; show (do let c ← Op.equal t _ _; pure (Value.bool (!c)) : Sem Value).run P w = _; simp only [Sem.run_bind, equal_pointer_nil hu, Result.andThen_ok, Sem.run_pure]
    · exact hk.elim
  · refine plain (by simp) (by simp) ?_
    split at hk
    · rename_i hu; refine .ok (fun w => ?_) hk; show (do let c ← Op.equal t _ _; pure (Value.bool c) : Sem Value).run P w = _; simp only [Sem.run_bind, equal_slice_nil hu, Result.andThen_ok, Sem.run_pure]
    · rename_i hu; refine .ok (fun w => ?_) hk; show (do let c ← Op.equal t _ _; pure (Value.bool (!c)) : Sem Value).run P w = _; simp only [Sem.run_bind, equal_slice_nil hu, Result.andThen_ok, Sem.run_pure]
    · exact hk.elim
  · exact PureTo.mono hk fun v ⟨c, e, k⟩ => by subst e; exact k

/-! ### All operations -/
def OpTo (P : Program) (o : Oper) (e : Env) (h : Heap) (K : KV) : Prop :=
  ∀ (w : World), w.heap = h → ∀ (n : Nat) (a : Act), Rel n e a → ∀ (next : Act → World → Prop) (Q : Exit → Act → World → Prop),
    (∀ v w', Rest w w' → K v w'.heap → next (a.put o.dst v) w') → o.wp P a w next Q
theorem OpTo.of_runs {P : Program} {o : Oper} {e : Env} {h : Heap} {K : KV} {s : Sem Value} (hx : execOp (opnd e) o = (do pure (Next.value (← s))))
    (hr : RunsTo P s h K) : OpTo P o e h K := by
  intro w hw n a ha next Q hn
  obtain ⟨v, w', e1, r, k⟩ := hr w hw
  unfold Oper.wp
  rw [ha.eval, hx]
  simp only [Sem.run_bind, e1, Result.andThen_ok, Sem.run_pure, Oper.upon]
  exact hn v w' r k
/-- What holds of operations that look at no memory. -/
def Plain (P : Program) (o : Oper) (e : Env) (K : Value → Prop) : Prop := ∃ v, (∀ w : World, (execOp (opnd e) o).run P w = .ok (.value v) w) ∧ K v
theorem Plain.of_pure {P : Program} {o : Oper} {e : Env} {K : Value → Prop} {s : Sem Value} (hx : execOp (opnd e) o = (do pure (Next.value (← s))))
    (hr : PureTo P s K) : Plain P o e K := by
  obtain ⟨v, h1, h2⟩ := hr
  exact ⟨v, fun w => by rw [hx]; simp only [Sem.run_bind, h1, Result.andThen_ok, Sem.run_pure], h2⟩
theorem Plain.of_value {P : Program} {o : Oper} {e : Env} {K : Value → Prop} {v : Value} (hx : execOp (opnd e) o = pure (Next.value v)) (hk : K v) : Plain P o e K :=
  ⟨v, fun w => by rw [hx]; rfl, hk⟩
theorem Plain.to {P : Program} {o : Oper} {e : Env} {h : Heap} {K : KV} (hp : Plain P o e fun v => K v h) : OpTo P o e h K := by
  obtain ⟨v, h1, h2⟩ := hp
  intro w hw n a ha next Q hn
  unfold Oper.wp
  rw [ha.eval, h1]
  exact hn v w (.refl w) (hw ▸ h2)
theorem PureTo.of_any {P : Program} {s : Sem Value} {K : Value → Prop} {t : TypeId} (hr : PureTo P s fun v => anyOf P t fun u => v = u ∧ K u) : PureTo P s K :=
  hr.mono fun v k => by obtain ⟨u, rfl, k⟩ := anyOf.ex k; exact k
theorem OpTo.of_value {P : Program} {o : Oper} {e : Env} {h : Heap} {K : KV} {v : Value} (hx : execOp (opnd e) o = pure (Next.value v)) (hk : K v h) : OpTo P o e h K := by
  intro w hw n a ha next Q hn
  unfold Oper.wp
  rw [ha.eval, hx]
  exact hn v w (.refl w) (hw ▸ hk)
theorem enters_run {P : Program} {f : FuncId} {ts : List TypeId} (h : enters P f = some ts) (args : Array Value) (w : World) :
    (callFunc f args).run P w = .ok (.enter f args) w := by
  unfold enters at h
  cases hf : P.funcs[f]? with
  | none => simp [hf] at h
  | some fn =>
    simp only [hf] at h
    split at h
    · rename_i h1 h2
      simp only [callFunc, Sem.run_bind, run_program, Result.andThen_ok, hf, h1, h2]
      rfl
    · cases h
theorem OpTo.of_call {P : Program} {o : Oper} {e : Env} {h : Heap} {K : KV} {f : FuncId} {args : Array Value} (hx : ∀ w, (execOp (opnd e) o).run P w = (callFunc f args).run P w)
    (hk : VCall P f args h K) : OpTo P o e h K := by
  intro w hw n a ha next Q hn
  unfold VCall at hk
  split at hk
  · rename_i ts hts
    unfold Oper.wp
    rw [ha.eval, hx, enters_run hts]
    simp only [Oper.upon]
    refine (hk w hw).mono ?_
    rintro e' w' ⟨v, rfl, r, k⟩
    exact hn v w' r k.to
  · exact hk.elim
theorem RunsTo.of_any {P : Program} {s : Sem Value} {h : Heap} {K : KV} {t : TypeId} (hr : RunsTo P s h fun v h' => anyOf P t fun u => v = u ∧ K u h') : RunsTo P s h K :=
  hr.mono fun v h' k => by obtain ⟨u, rfl, k⟩ := anyOf.ex k; exact k
end Go.VC
