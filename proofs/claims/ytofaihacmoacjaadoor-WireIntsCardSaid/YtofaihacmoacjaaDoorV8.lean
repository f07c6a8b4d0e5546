/- Verification conditions of whole bodies are enough: the theorem by which a function's contract follows from its condition. Conditions: none. -/
import Derived.Test.YtofaihacmoacjaaDoorV7
namespace Go.VC
open Go

/-- What is asked of a body's text once: that its temporaries lie in the frame; of regions that draw, that the tables fit. -/
def okC (A : Ann) (n : Nat) : Code → Bool
  | .region id ops draw => (ops.toList.all fun o => o.dst.all (· < n)) && (!draw || (Region.noSelect ops && depOk ops (A.draws id)))
  | .seq a b => okC A n a && okC A n b
  | .cond _ a b => okC A n a && okC A n b
  | .block _ b => okC A n b
  | .loop b => okC A n b
  | _ => true
theorem wp_loop_ix {P : Program} {Q : Exit → Act → World → Prop} {c : Code} (J : Nat → Act → World → Prop) {n : Nat} {a : Act} {w : World} (h₀ : J n a w)
    (round : ∀ n a w, J n a w → c.wp P (Exit.then (fun a' w' => ∃ m, m < n ∧ J m a' w') Q) a w) : (Code.loop c).wp P Q a w := by
  intro b k cs
  have key : ∀ n a w, J n a w →
      ∃ e a' w', Q e a' w' ∧ Arrives P (lone (b.at a (.code c :: .inLoop c :: k)) cs w) b k cs e a' w' := by
    intro n
    induction n using Nat.strongRecOn with
    | _ n ih =>
      intro a w hJ
      obtain ⟨e, a₁, w₁, hq, harr⟩ := round n a w hJ b (.inLoop c :: k) cs
      cases e with
      | normal =>
        obtain ⟨m, hlt, hJ₁⟩ := hq
        obtain ⟨e₂, a₂, w₂, hq₂, harr₂⟩ := ih m hlt a₁ w₁ hJ₁
        exact ⟨e₂, a₂, w₂, hq₂, .of_steps (Steps.trans harr (.one step_inLoop)) harr₂⟩
      | exit id => exact ⟨_, a₁, w₁, hq, .pass (x := .inLoop c) rfl (fun _ _ => .inl (by simp)) harr⟩
      | goto l => exact ⟨_, a₁, w₁, hq, .pass (x := .inLoop c) rfl (fun _ _ => .inl (by simp)) harr⟩
      | ret => exact ⟨_, a₁, w₁, hq, .pass (x := .inLoop c) rfl (fun _ _ => .inl (by simp)) harr⟩
      | panic ch => exact ⟨_, a₁, w₁, hq, .pass (x := .inLoop c) rfl (fun _ _ => .inl (by simp)) harr⟩
      | outgrown => exact ⟨_, a₁, w₁, hq, .pass (x := .inLoop c) rfl (fun _ _ => .inl (by simp)) harr⟩
  obtain ⟨e, a', w', hq, harr⟩ := key _ a w h₀
  exact ⟨e, a', w', hq, .of_steps (.one step_loop) harr⟩
theorem updL_valsAt {e e0 : Env} : ∀ (ss : List Nat) (t : Nat), t ∈ ss → updL ss (valsAt e ss) e0 t = e t
  | s :: ss, t, ht => by
    simp only [valsAt, updL, upd]
    cases hb : Nat.beq t s with
    | true => have := Nat.eq_of_beq_eq_true hb; subst this; rfl
    | false =>
      have hne : t ≠ s := fun e => by subst e; simp at hb
      exact updL_valsAt ss t ((List.mem_cons.1 ht).resolve_left hne)
theorem updL_other {e0 : Env} : ∀ (ss : List Nat) (vs : List Value) (t : Nat), t ∉ ss → updL ss vs e0 t = e0 t
  | [], _, _, _ => rfl
  | s :: ss, [], _, _ => rfl
  | s :: ss, v :: vs, t, ht => by
    have hne : t ≠ s := fun e => ht (by simp [e])
    simp only [updL, upd]
    cases hb : Nat.beq t s with
    | true => exact absurd (Nat.eq_of_beq_eq_true hb) hne
    | false => exact updL_other ss vs t fun h => ht (List.mem_cons_of_mem _ h)
/-- The environment at a round's head, told by the slots, what was before, and the rest. -/
theorem head_env {ds ss : List Nat} {e e' : Env} (h : Same ds e e') : updL ss (valsAt e' ss) (havoc ds e' e) = e' := by
  funext t
  by_cases ht : t ∈ ss
  · exact updL_valsAt ss t ht
  · rw [updL_other ss _ t ht]
    unfold havoc
    cases hm : memN ds t with
    | true => rfl
    | false =>
      have : t ∉ ds := fun h' => by rw [memN_iff.2 h'] at hm; cases hm
      exact (h t this).symm

theorem vcC_sound {P : Program} {A : Ann} {n : Nat} (hm : P.follows .mixedOrders = true) : ∀ (c : Code) (e : Env) (h : Heap) (KN : KE) (KX : Nat → KE) (KR : KE),
    vcC P A c e h KN KX KR → okC A n c = true → ∀ (Q : Exit → Act → World → Prop), (∀ c a d v w, Q (.panic c) (Act.put a d v) w → Q (.panic c) a w) →
    ∀ (w : World), w.heap = h → ∀ (a : Act), Rel n e a →
    (∀ e' a' w', Rel n e' a' → Rest w w' → Same (dsts c) e e' → KN e' w'.heap → Q .normal a' w') →
    (∀ id e' a' w', Rel n e' a' → Rest w w' → Same (dsts c) e e' → KX id e' w'.heap → Q (.exit id) a' w') →
    (∀ e' a' w', Rel n e' a' → Rest w w' → Same (dsts c) e e' → KR e' w'.heap → Q .ret a' w') → c.wp P Q a w := by
  intro c
  induction c with
  | skip => intro e h KN KX KR hk hok Q hPQ w hw a ha hN hX hR; exact wp_skip (hN e a w ha (.refl w) (.refl _ _) (hw ▸ hk))
  | exit id => intro e h KN KX KR hk hok Q hPQ w hw a ha hN hX hR; exact wp_exit (hX id e a w ha (.refl w) (.refl _ _) (hw ▸ hk))
  | ret => intro e h KN KX KR hk hok Q hPQ w hw a ha hN hX hR; exact wp_ret (hR e a w ha (.refl w) (.refl _ _) (hw ▸ hk))
  | region id ops draw =>
    intro e h KN KX KR hk hok Q hPQ w hw a ha hN hX hR
    simp only [okC, Bool.and_eq_true] at hok
    cases draw with
    | false => exact wp_region_list (vcOps_sound ops.toList e h hk hok.1 w hw a ha fun e' a' w' h1 h2 h3 h4 => hN e' a' w' h1 h2 h3 h4)
    | true =>
      have hok2 := hok.2
      simp only [Bool.not_true, Bool.false_or, Bool.and_eq_true] at hok2
      refine wp_region_any hm (wpAnyF.any _ _ _ _ (vcDraw_sound (n := n) hok2.1 hok2.2 hok.1 hPQ ops.size _ [] e h hk { w with drawn := w.drawn + 1 } hw (by simp) ?_ ?_ a ha ?_))
      · intro i hi l hl
        exfalso
        rw [Array.getD_eq_getD_getElem?] at hl
        by_cases hlt : l < ops.size
        · simp [hlt] at hl
        · simp [hlt] at hl
      · intro x hx; simp [liftF] at hx
      · intro e' a' w' h1 h2 h3 h4
        exact hN e' a' w' h1 ⟨h2.os, h2.tape, h2.output⟩ h3 h4
  | seq x y ihx ihy =>
    intro e h KN KX KR hk hok Q hPQ w hw a ha hN hX hR
    simp only [okC, Bool.and_eq_true] at hok
    have s1 : ∀ t ∈ dsts x, t ∈ dsts (.seq x y) := fun t ht => by simp [dsts, ht]
    have s2 : ∀ t ∈ dsts y, t ∈ dsts (.seq x y) := fun t ht => by simp [dsts, ht]
    simp only [vcC] at hk
    split at hk
    · refine wp_seq (ihx e h _ KX KR hk hok.1 (Exit.then (y.wp P Q) Q) (fun c a d v w h => hPQ c a d v w h) w hw a ha ?_ ?_ ?_)
      · intro e1 a1 w1 r1 q1 sm1 k1
        refine ihy e1 w1.heap KN KX KR k1 hok.2 Q hPQ w1 rfl a1 r1 ?_ ?_ ?_
        · intro e2 a2 w2 r2 q2 sm2 k2; exact hN e2 a2 w2 r2 (q1.trans q2) ((sm1.mono s1).trans (sm2.mono s2)) k2
        · intro id e2 a2 w2 r2 q2 sm2 k2; exact hX id e2 a2 w2 r2 (q1.trans q2) ((sm1.mono s1).trans (sm2.mono s2)) k2
        · intro e2 a2 w2 r2 q2 sm2 k2; exact hR e2 a2 w2 r2 (q1.trans q2) ((sm1.mono s1).trans (sm2.mono s2)) k2
      · intro id e1 a1 w1 r1 q1 sm1 k1; exact hX id e1 a1 w1 r1 q1 (sm1.mono s1) k1
      · intro e1 a1 w1 r1 q1 sm1 k1; exact hR e1 a1 w1 r1 q1 (sm1.mono s1) k1
    · rename_i l hl
      obtain ⟨J, hk1, hk2⟩ := hk
      refine wp_seq (ihx e h _ KX KR hk1 hok.1 (Exit.then (y.wp P Q) Q) (fun c a d v w h => hPQ c a d v w h) w hw a ha ?_ ?_ ?_)
      · intro e1 a1 w1 r1 q1 sm1 k1
        have hb := forallI.at _ _ _ _ (hk2 w1.heap e1) (by rw [valsAt_length]; simp [slotsOf, tysOf]) k1
        rw [head_env sm1] at hb
        refine ihy e1 w1.heap KN KX KR hb hok.2 Q hPQ w1 rfl a1 r1 ?_ ?_ ?_
        · intro e2 a2 w2 r2 q2 sm2 k2; exact hN e2 a2 w2 r2 (q1.trans q2) ((sm1.mono s1).trans (sm2.mono s2)) k2
        · intro id e2 a2 w2 r2 q2 sm2 k2; exact hX id e2 a2 w2 r2 (q1.trans q2) ((sm1.mono s1).trans (sm2.mono s2)) k2
        · intro e2 a2 w2 r2 q2 sm2 k2; exact hR e2 a2 w2 r2 (q1.trans q2) ((sm1.mono s1).trans (sm2.mono s2)) k2
      · intro id e1 a1 w1 r1 q1 sm1 k1; exact hX id e1 a1 w1 r1 q1 (sm1.mono s1) k1
      · intro e1 a1 w1 r1 q1 sm1 k1; exact hR e1 a1 w1 r1 q1 (sm1.mono s1) k1
  | cond c x y ihx ihy =>
    intro e h KN KX KR hk hok Q hPQ w hw a ha hN hX hR
    simp only [okC, Bool.and_eq_true] at hok
    have s1 : ∀ t ∈ dsts x, t ∈ dsts (.cond c x y) := fun t ht => by simp [dsts, ht]
    have s2 : ∀ t ∈ dsts y, t ∈ dsts (.cond c x y) := fun t ht => by simp [dsts, ht]
    simp only [vcC, VBool] at hk
    split at hk
    · rename_i t ht
      have hev : a.eval c = .bool t := by rw [ha.eval]; exact ht
      refine wp_cond hev ?_
      cases t with
      | true =>
        exact ihx e h KN KX KR hk hok.1 Q hPQ w hw a ha (fun e1 a1 w1 r1 q1 sm k => hN e1 a1 w1 r1 q1 (sm.mono s1) k) (fun id e1 a1 w1 r1 q1 sm k => hX id e1 a1 w1 r1 q1 (sm.mono s1) k)
          (fun e1 a1 w1 r1 q1 sm k => hR e1 a1 w1 r1 q1 (sm.mono s1) k)
      | false =>
        exact ihy e h KN KX KR hk hok.2 Q hPQ w hw a ha (fun e1 a1 w1 r1 q1 sm k => hN e1 a1 w1 r1 q1 (sm.mono s2) k) (fun id e1 a1 w1 r1 q1 sm k => hX id e1 a1 w1 r1 q1 (sm.mono s2) k)
          (fun e1 a1 w1 r1 q1 sm k => hR e1 a1 w1 r1 q1 (sm.mono s2) k)
    · exact hk.elim
  | block id c ih =>
    intro e h KN KX KR hk hok Q hPQ w hw a ha hN hX hR
    refine wp_block (ih e h KN _ KR hk hok (Exit.inBlock id Q) (fun c a d v w h => hPQ c a d v w h) w hw a ha ?_ ?_ ?_)
    · exact hN
    · intro j e1 a1 w1 r1 q1 sm k
      simp only [Exit.inBlock]
      cases hb : Nat.beq j id with
      | true =>
        have := Nat.eq_of_beq_eq_true hb
        rw [hb] at k
        rw [if_pos this]; exact hN e1 a1 w1 r1 q1 sm k
      | false =>
        have hne : j ≠ id := fun e => by subst e; simp at hb
        rw [hb] at k
        rw [if_neg hne]; exact hX j e1 a1 w1 r1 q1 sm k
    · exact hR
  | loop c ih =>
    intro e h KN KX KR hk hok Q hPQ w hw a ha hN hX hR
    simp only [vcC] at hk
    split at hk
    · exact hk.elim
    · rename_i id hid
      obtain ⟨I, ⟨n0, h0⟩, round⟩ := hk
      refine wp_loop_ix (fun m a' w' => ∃ e', Rel n e' a' ∧ Rest w w' ∧ Same (dsts c) e e' ∧ applyI _ (I m w'.heap) (valsAt e' (slotsOf (A.loops id)))) (n := n0)
        ⟨e, ha, .refl w, .refl _ _, hw ▸ h0⟩ ?_
      rintro m a1 w1 ⟨e1, r1, q1, sm1, hI⟩
      have hb := forallI.at _ _ _ _ (round m w1.heap e1) (by rw [valsAt_length]; simp [slotsOf, tysOf]) hI
      rw [head_env sm1] at hb
      refine ih e1 w1.heap _ KX KR hb hok (Exit.then _ Q) (fun c a d v w h => hPQ c a d v w h) w1 rfl a1 r1 ?_ ?_ ?_
      · rintro e2 a2 w2 r2 q2 sm2 ⟨m', hlt, hI'⟩
        exact ⟨m', hlt, e2, r2, q1.trans q2, sm1.trans sm2, hI'⟩
      · intro j e2 a2 w2 r2 q2 sm2 k2; exact hX j e2 a2 w2 r2 (q1.trans q2) (sm1.trans sm2) k2
      · intro e2 a2 w2 r2 q2 sm2 k2; exact hR e2 a2 w2 r2 (q1.trans q2) (sm1.trans sm2) k2
  | rangeFunc f ps as b => intro e h KN KX KR hk; exact hk.elim
  | scope b => intro e h KN KX KR hk; exact hk.elim
  | label l => intro e h KN KX KR hk; exact hk.elim
  | goto l => intro e h KN KX KR hk; exact hk.elim
  | refuse why => intro e h KN KX KR hk; exact hk.elim

/-! ### Results, and a function's contract -/
def vcRets (P : Program) : List ResultVar → Env → Heap → (List Value → Prop) → Prop
  | [], _, _, K => K []
  | .tmp t :: r, e, h, K => vcRets P r e h fun vs => K (e t :: vs)
  | .cell a t :: r, e, h, K => match e a with
    | .pointer p => VSome p fun ad => vcLoadF P t ad h fun v _ => vcRets P r e h fun vs => K (v :: vs)
    | _ => False
def retV : List Value → Value
  | [v] => v
  | vs => .tuple vs.toArray
def resV (tmps : Array Value) : ResultVar → Sem Value
  | .tmp t => pure (tmps.getD t undef)
  | .cell a t => do loadVar t (← asAddr (tmps.getD a undef))
theorem vcRets.run {P : Program} {e : Env} {h : Heap} {tmps : Array Value} (he : ∀ t, tmps.getD t undef = e t) {w : World} (hw : w.heap = h) : ∀ (rs : List ResultVar) (K : List Value → Prop),
    vcRets P rs e h K → ∃ vs, K vs ∧ (rs.mapM (resV tmps)).run P w = .ok vs w
  | [], K, hk => ⟨[], hk, rfl⟩
  | .tmp t :: r, K, hk => by
    obtain ⟨vs, h1, h2⟩ := vcRets.run he hw r _ hk
    exact ⟨e t :: vs, h1, by simp only [List.mapM_cons, Sem.run_bind, resV, he, Sem.run_pure, Result.andThen_ok, h2]⟩
  | .cell a t :: r, K, hk => by
    simp only [vcRets] at hk
    split at hk
    · rename_i p hp
      obtain ⟨ad, hp2, hk2⟩ := hk.ex
      subst hp2
      obtain ⟨v, vs0, hk3, hc, hy⟩ := loadF_yields hk2
      obtain ⟨vs, h1, h2⟩ := vcRets.run he hw r _ hk3
      have h3 := hy w (hw ▸ hc)
      simp only [Instr.loadAt, Instr.sureAddr, Sem.run_bind, Sem.run_pure, Result.andThen_ok] at h3
      exact ⟨v :: vs, h1, by simp only [List.mapM_cons, Sem.run_bind, resV, he, hp, show asAddr (.pointer (some ad)) = pure ad from rfl, Sem.run_pure, Result.andThen_ok, h3, h2]⟩
    · exact hk.elim
theorem results_run {P : Program} {fn : Func} {e : Env} {h : Heap} {tmps : Array Value} (he : ∀ t, tmps.getD t undef = e t) {w : World} (hw : w.heap = h) {K : List Value → Prop}
    (hk : vcRets P fn.results.toList e h K) : ∃ vs, K vs ∧ (results fn tmps).run P w = .ok (retV vs) w := by
  obtain ⟨vs, h1, h2⟩ := vcRets.run he hw _ _ hk
  refine ⟨vs, h1, ?_⟩
  have hrs : results fn tmps = (do
      let vs ← fn.results.mapM (resV tmps)
      pure (if h : vs.size = 1 then vs[0] else .tuple vs)) := by
    unfold results
    congr 1
  rw [hrs, ← Array.toArray_toList (xs := fn.results), List.mapM_toArray]
  simp only [Sem.run_bind, Sem.run_map, h2, Result.andThen_ok, Sem.run_pure]
  congr 1
  match vs with
  | [] => rfl
  | [v] => rfl
  | v :: u :: r => simp [retV]
def nthV : List Value → Env
  | [], _ => undef
  | v :: _, 0 => v
  | _ :: r, t + 1 => nthV r t
theorem nthV_eq : ∀ (l : List Value) (t : Nat), nthV l t = l.getD t undef
  | [], t => by simp [nthV]
  | v :: r, 0 => by simp [nthV]
  | v :: r, t + 1 => by simp [nthV, nthV_eq r t]
/-- The condition of a whole function. -/
def vcF (P : Program) (A : Ann) (fn : Func) (c : Code) (args : List Value) (h : Heap) (R : KV) : Prop :=
  vcC P A c (nthV args) h (fun e h => vcRets P fn.results.toList e h fun vs => R (retV vs) h) (fun _ _ _ => False)
    (fun e h => vcRets P fn.results.toList e h fun vs => R (retV vs) h)
theorem calls_of_vc {P : Program} {A : Ann} {f : FuncId} {fn : Func} {c : Code} {args : List Value} {h : Heap} {R : KV} (hf : P.funcs[f]? = some fn) (hb : fn.body = some c)
    (hm : P.follows .mixedOrders = true) (hok : okC A (args.length + (fn.ntmps - args.length)) c = true) (hk : vcF P A fn c args h R) : CallsH P f args.toArray h R := by
  intro w hw
  refine calls_of_wp hf hb ?_
  have hR : ∀ (e' : Env) (a' : Act) (w' : World), Rel (args.length + (fn.ntmps - args.length)) e' a' → Rest w w' → (vcRets P fn.results.toList e' w'.heap fun vs => R (retV vs) w'.heap) →
      a'.defers = [] ∧ ∃ v, (results fn a'.tmps).run P w' = .ok v w' ∧ (∃ u, Ending.returned v = .returned u ∧ Rest w w' ∧ R u w'.heap) := fun e' a' w' r1 q1 k => by
    obtain ⟨vs, h1, h2⟩ := results_run r1.2.2 rfl k
    exact ⟨r1.1, retV vs, h2, retV vs, rfl, q1, h1⟩
  refine vcC_sound hm c (nthV args) h _ _ _ hk hok _ ?_ w hw _ ?_ ?_ ?_ ?_
  · intro c a d v w h; cases d <;> exact h
  · refine ⟨rfl, by simp, fun t => ?_⟩
    rw [nthV_eq]
    simp only [Array.getD_eq_getD_getElem?, Array.getElem?_append, List.size_toArray, List.getElem?_toArray, List.getD_eq_getElem?_getD]
    split
    · rfl
    · rename_i hlt
      rw [List.getElem?_eq_none (by omega)]
      rcases Nat.lt_or_ge (t - args.length) (fn.ntmps - args.length) with h' | h'
      · simp [h']
      · simp [Nat.not_lt.2 h']
  · intro e' a' w' r1 q1 _ k; exact hR e' a' w' r1 q1 k
  · intro id e' a' w' r1 q1 _ k; exact k.elim
  · intro e' a' w' r1 q1 _ k; exact hR e' a' w' r1 q1 k
end Go.VC
