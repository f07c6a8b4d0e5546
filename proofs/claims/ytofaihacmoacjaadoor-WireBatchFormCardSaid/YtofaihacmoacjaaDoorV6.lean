/- Verification conditions of regions and of whole bodies, and that they are sound. Conditions: none. -/
import Derived.Test.YtofaihacmoacjaaDoorV5
namespace Go.VC
open Go

abbrev KE := Env → Heap → Prop
def dstsL : List Oper → List Nat
  | [] => []
  | o :: r => match o.dst with | some d => d :: dstsL r | none => dstsL r
/-! ### Nothing but what is written changes -/
def Same (ds : List Nat) (e e' : Env) : Prop := ∀ t, t ∉ ds → e' t = e t
theorem Same.refl (ds : List Nat) (e : Env) : Same ds e e := fun _ _ => rfl
theorem Same.trans {ds : List Nat} {e e1 e2 : Env} (h : Same ds e e1) (k : Same ds e1 e2) : Same ds e e2 := fun t ht => (k t ht).trans (h t ht)
theorem Same.mono {ds ds' : List Nat} {e e' : Env} (h : Same ds e e') (hs : ∀ t ∈ ds, t ∈ ds') : Same ds' e e' := fun t ht => h t fun h1 => ht (hs t h1)
theorem Same.put {ds : List Nat} {e : Env} {d : Option Nat} (hd : ∀ x, d = some x → x ∈ ds) (v : Value) : Same ds e (putE e d v) := fun t ht => by
  cases d with
  | none => rfl
  | some d =>
    simp only [putE, upd]
    cases hb : Nat.beq t d with
    | false => rfl
    | true => exact absurd (Nat.eq_of_beq_eq_true hb ▸ hd d rfl) ht
theorem mem_dstsL {o : Oper} {d : Nat} (hd : o.dst = some d) : ∀ l : List Oper, o ∈ l → d ∈ dstsL l := by
  intro l
  induction l with
  | nil => intro h; cases h
  | cons x r ih =>
    intro h
    unfold dstsL
    cases h with
    | head => rw [hd]; exact List.mem_cons_self
    | tail _ h =>
      cases x.dst with
      | none => exact ih h
      | some y => exact List.mem_cons_of_mem _ (ih h)
/-! ### A region in the order of its text -/
def guardK (ops : Array Oper) (o : Oper) (e : Env) (run skip : Env → Prop) : Prop :=
  match o.guard with
  | none => run e
  | some (j, want) => match (ops[j]?).bind (·.dst) with
    | some d => match e d with
      | .bool b => cond b (cond want (run (upd e d (.bool true))) (skip (upd e d (.bool true)))) (cond want (skip (upd e d (.bool false))) (run (upd e d (.bool false))))
      | _ => skip e
    | none => skip e
theorem upd_same {e : Env} {d : Nat} {v : Value} (h : e d = v) : upd e d v = e := by
  funext t
  simp only [upd]
  cases hb : Nat.beq t d with
  | false => rfl
  | true => have := Nat.eq_of_beq_eq_true hb; subst this; exact h.symm
theorem Rel.yielded {n : Nat} {e : Env} {a : Act} (h : Rel n e a) (ops : Array Oper) (j : Nat) :
    yielded ops a.tmps j = match (ops[j]?).bind (·.dst) with
      | some d => (match e d with | .bool b => some b | _ => none)
      | none => none := by
  unfold Go.yielded
  cases hd : (ops[j]?).bind (·.dst) with
  | none => rfl
  | some d =>
    simp only [Option.bind_some]
    have h1 := h.2.2 d
    rw [← h1]
    cases ht : a.tmps[d]? with
    | none => simp [ht, undef]
    | some v =>
      simp only [Array.getD_eq_getD_getElem?, ht, Option.getD_some]
      cases v <;> rfl
theorem guardK.cases {ops : Array Oper} {o : Oper} {e : Env} {run skip : Env → Prop} (h : guardK ops o e run skip) {n : Nat} {a : Act} (ha : Rel n e a) :
    (Region.wanted o (yielded ops a.tmps) = true ∧ run e) ∨ (Region.wanted o (yielded ops a.tmps) = false ∧ skip e) := by
  unfold guardK at h
  unfold Region.wanted
  split at h
  · rename_i hg; rw [hg]; exact .inl ⟨rfl, h⟩
  · rename_i j want hg
    rw [hg]
    simp only [ha.yielded]
    split at h
    · rename_i d hd
      (try simp only [hd])
      split at h
      · rename_i b hb
        (try simp only [hb])
        cases b <;> cases want <;> (simp only [cond] at h; rw [upd_same hb] at h)
        · exact .inl ⟨rfl, h⟩
        · exact .inr ⟨rfl, h⟩
        · exact .inr ⟨rfl, h⟩
        · exact .inl ⟨rfl, h⟩
      · rename_i hb
        refine .inr ⟨?_, h⟩
        cases hv : e d <;> first | rfl | exact absurd hv (hb _)
    · rename_i hd
      (try simp only [hd])
      exact .inr ⟨rfl, h⟩
def vcOps (P : Program) (ops : Array Oper) : List Oper → Env → Heap → KE → Prop
  | [], e, h, K => K e h
  | o :: r, e, h, K => guardK ops o e (fun e => vcOp P o e h fun v h' => vcOps P ops r (putE e o.dst v) h' K) (fun e => vcOps P ops r (putE e o.dst undef) h K)
theorem vcOps_sound {P : Program} {ops : Array Oper} {n : Nat} {K : KE} {Q : Exit → Act → World → Prop} : ∀ (l : List Oper) (e : Env) (h : Heap), vcOps P ops l e h K →
    (l.all fun o => o.dst.all (· < n)) = true → ∀ (w : World), w.heap = h → ∀ (a : Act), Rel n e a →
    (∀ e' a' w', Rel n e' a' → Rest w w' → Same (dstsL l) e e' → K e' w'.heap → Q .normal a' w') → wpList P ops Q l a w
  | [], e, h, hk, _, w, hw, a, ha, hQ => hQ e a w ha (.refl w) (.refl _ _) (hw ▸ hk)
  | o :: r, e, h, hk, hd, w, hw, a, ha, hQ => by
    simp only [List.all_cons, Bool.and_eq_true] at hd
    have this : ∀ (v : Value) (e' : Env), Same (dstsL r) (putE e o.dst v) e' → Same (dstsL (o :: r)) e e' := fun v e' hs => by
      refine (Same.put (fun x hx => ?_) v).trans (hs.mono fun t ht => ?_)
      · simp [dstsL, hx]
      · simp only [dstsL]; split <;> simp [ht]
    unfold wpList
    rcases guardK.cases hk ha with ⟨hwd, hk⟩ | ⟨hwd, hk⟩
    · rw [if_pos hwd]
      refine .inl (vcOp_sound hk w hw n a ha _ Q fun v w' hr hk' => ?_)
      exact vcOps_sound r _ _ hk' hd.2 w' rfl _ (ha.put hd.1 v) fun e' a' w'' h1 h2 hs h3 => hQ e' a' w'' h1 (hr.trans h2) (this v e' hs) h3
    · rw [if_neg (by simp [hwd])]
      exact vcOps_sound r _ _ hk hd.2 w hw _ (ha.put hd.1 undef) fun e' a' w'' h1 h2 hs h3 => hQ e' a' w'' h1 h2 (this undef e' hs) h3

/-! ### A region that draws its order -/
def depOf (B : Array Nat) (l i : Nat) : Bool := (B.getD l 0).testBit i
/-- B tells, for each operation, upon which it waits, straight or not. -/
def depOk (ops : Array Oper) (B : Array Nat) : Bool :=
  (List.range ops.size).all fun j => match ops[j]? with
    | some oj => (List.range ops.size).all fun i => !(depOf B j i) || oj.after.any fun e => Region.binds .any e && (e.on == i || depOf B e.on i)
    | none => true
def isLoad (o : Op) : Bool := match o with | .load _ _ => true | _ => false
def loudOf (P : Program) (ops : Array Oper) (i : Nat) : Bool :=
  match ops[i]? with
  | some o => !(isPure P o.op || isLoad o.op)
  | none => false
def cellsAre (h : Heap) (a : Addr) : Nat → List Value → Prop
  | _, [] => True
  | i, [v] => cellH h (addN a i) = some v
  | i, v :: vs => cellH h (addN a i) = some v ∧ cellsAre h a (i + 1) vs
abbrev FactsH := List (Nat × (Heap → Prop))
def aliveFacts (P : Program) (ops : Array Oper) (B : Array Nat) (L : Array Bool) : FactsH → Heap → Prop → Prop
  | [], _, K => K
  | x :: Φ, h, K => match aliveAt (loudOf P ops) (depOf B) ops.size L x.1 with
    | true => x.2 h ∧ aliveFacts P ops B L Φ h K
    | false => aliveFacts P ops B L Φ h K
def pickSilent (P : Program) (ops : Array Oper) (L : Array Bool) (rs : List Nat) : Option Nat :=
  rs.find? fun i => match ops[i]? with
    | some o => (isPure P o.op || isLoad o.op) && Region.free .any ops L i
    | none => false
def vcLoadF (P : Program) (t : TypeId) (a : Addr) (h : Heap) (K : Value → List Value → Prop) : Prop :=
  match P.info? t with
  | some i => match isAggP P t, i.zero with
    | some true, some (.agg zs) => match Nat.beq i.size zs.size with
      | true => loadL h a 0 zs.toList fun vs => K (.agg vs.toArray) vs
      | false => False
    | some false, some z => loadC h a z fun v => K v [v]
    | _, _ => False
  | none => False
theorem cellsAre.get {h : Heap} {a : Addr} : ∀ {vs : List Value} {i : Nat}, cellsAre h a i vs → ∀ j v, vs[j]? = some v → cellH h (addN a (i + j)) = some v
  | [], _, _, j, v, hj => by simp at hj
  | [u], i, hc, j, v, hj => by
    cases j with
    | zero => simp at hj; subst hj; exact hc
    | succ j => simp at hj
  | u :: u' :: vs, i, hc, j, v, hj => by
    cases j with
    | zero => simp at hj; subst hj; exact hc.1
    | succ j =>
      simp only [List.getElem?_cons_succ] at hj
      have := cellsAre.get hc.2 j v hj
      rwa [show i + (j + 1) = i + 1 + j by omega]
theorem cellsAre.mk {h : Heap} {a : Addr} : ∀ {vs : List Value} {i : Nat}, (∀ j v, vs[j]? = some v → cellH h (addN a (i + j)) = some v) → cellsAre h a i vs
  | [], _, _ => trivial
  | [u], i, hc => hc 0 u rfl
  | u :: u' :: vs, i, hc => ⟨hc 0 u rfl, cellsAre.mk fun j v hj => by
      have := hc (j + 1) v (by simpa using hj)
      rwa [show i + (j + 1) = i + 1 + j by omega] at this⟩
theorem loadF_yields {P : Program} {t : TypeId} {a : Addr} {h : Heap} {K : Value → List Value → Prop} (hk : vcLoadF P t a h K) :
    ∃ v vs, K v vs ∧ cellsAre h a 0 vs ∧ ∀ w : World, cellsAre w.heap a 0 vs → (Instr.loadAt t (.pointer (some a))).run P w = .ok v w := by
  unfold vcLoadF at hk
  cases hi : P.info? t with
  | none => simp [hi] at hk
  | some i =>
    simp only [hi] at hk
    split at hk
    · rename_i zs ha hz
      split at hk
      · rename_i hs
        have hs' : i.size = zs.size := Nat.eq_of_beq_eq_true hs
        obtain ⟨vs, hl, hj, hK⟩ := loadL.ex _ _ _ _ _ hk
        refine ⟨_, vs, hK, cellsAre.mk hj, fun w hw => ?_⟩
        have hlc := run_loadCells_list (P := P) w a vs (fun j v hv => by
          have := hw.get j v hv
          rw [Nat.zero_add] at this
          rw [addN_eq, cell_eq]; exact this)
        have hsz : i.size = vs.length := by rw [hs', hl]; simp
        simp only [Instr.loadAt, Instr.sureAddr, loadVar, Sem.run_bind, Sem.run_pure, Result.andThen_ok, agg_run ha, if_true, sizeOf, info_run hi, hsz, hlc]
      · exact hk.elim
    · rename_i z ha hz
      obtain ⟨v, hc, hK⟩ := anyLike.ex hk
      refine ⟨v, [v], hK, hc, fun w hw => ?_⟩
      have hc' : cellH w.heap a = some v := hw
      simp [Instr.loadAt, Instr.sureAddr, loadVar, agg_run ha, cell_eq, hc']
    · exact hk.elim
/-- All of some numbers. -/
def allOf : List Nat → (Nat → Prop) → Prop
  | [], _ => True
  | [i], K => K i
  | i :: r, K => K i ∧ allOf r K
def vcDraw (P : Program) (ops : Array Oper) (B : Array Nat) : Nat → Array Bool → FactsH → Env → Heap → KE → Prop
  | 0, L, _, e, h, K => match Region.ready .any ops L with
    | [] => K e h
    | _ => False
  | fuel + 1, L, Φ, e, h, K => match Region.ready .any ops L with
    | [] => K e h
    | rs => match pickSilent P ops L rs with
      | some i => match ops[i]? with
        | some o => guardK ops o e
            (fun e => match isPure P o.op with
              | true => vcPure P o e fun v => vcDraw P ops B fuel (L.setIfInBounds i true) Φ (putE e o.dst v) h K
              | false => match o.op with
                | .load t x => match opnd e x with
                  | .pointer p => VSome p fun a => vcLoadF P t a h fun v vs => vcDraw P ops B fuel (L.setIfInBounds i true) ((i, fun h' => cellsAre h' a 0 vs) :: Φ) (putE e o.dst v) h K
                  | _ => False
                | _ => False)
            (fun e => vcDraw P ops B fuel (L.setIfInBounds i true) Φ (putE e o.dst undef) h K)
        | none => False
      | none => allOf rs fun i => match ops[i]? with
        | some o => guardK ops o e
            (fun e => vcOp P o e h fun v h' => aliveFacts P ops B (L.setIfInBounds i true) Φ h' (vcDraw P ops B fuel (L.setIfInBounds i true) Φ (putE e o.dst v) h' K))
            (fun e => vcDraw P ops B fuel (L.setIfInBounds i true) Φ (putE e o.dst undef) h K)
        | none => False

theorem aliveFacts.to {P : Program} {ops : Array Oper} {B : Array Nat} {L : Array Bool} {h : Heap} {K : Prop} : ∀ {Φ : FactsH}, aliveFacts P ops B L Φ h K →
    (∀ x ∈ Φ, aliveAt (loudOf P ops) (depOf B) ops.size L x.1 = true → x.2 h) ∧ K
  | [], hk => ⟨by simp, hk⟩
  | x :: Φ, hk => by
    unfold aliveFacts at hk
    split at hk
    · obtain ⟨h1, h2⟩ := hk
      obtain ⟨h3, h4⟩ := aliveFacts.to h2
      refine ⟨fun y hy hal => ?_, h4⟩
      rcases List.mem_cons.1 hy with rfl | hy
      · exact h1
      · exact h3 y hy hal
    · rename_i hn
      obtain ⟨h3, h4⟩ := aliveFacts.to hk
      refine ⟨fun y hy hal => ?_, h4⟩
      rcases List.mem_cons.1 hy with rfl | hy
      · rw [hn] at hal; cases hal
      · exact h3 y hy hal
theorem allOf.get : ∀ {l : List Nat} {K : Nat → Prop}, allOf l K → ∀ i ∈ l, K i
  | [], _, _, i, hi => by simp at hi
  | [x], _, h, i, hi => by simp at hi; subst hi; exact h
  | x :: y :: r, _, h, i, hi => by
    rcases List.mem_cons.1 hi with rfl | hi
    · exact h.1
    · exact allOf.get h.2 i hi
def liftF (Φ : FactsH) : List (Nat × (World → Prop)) := Φ.map fun x => (x.1, fun w => x.2 w.heap)
def Closed (B : Array Nat) (L : Array Bool) : Prop := ∀ i, L.getD i true = false → ∀ l, L.getD l false = true → depOf B l i = false
theorem depOk.spec {ops : Array Oper} {B : Array Nat} (h : depOk ops B = true) (i : Nat) (hi : i < ops.size) (j : Nat) (oj : Oper) (hj : ops[j]? = some oj) (hd : depOf B j i = true) :
    ∃ e ∈ oj.after, Region.binds .any e = true ∧ (e.on = i ∨ depOf B e.on i = true) := by
  unfold depOk at h
  have h1 := List.all_eq_true.1 h j (List.mem_range.2 (Array.getElem?_eq_some_iff.1 hj).1)
  simp only [hj] at h1
  have h2 := List.all_eq_true.1 h1 i (List.mem_range.2 hi)
  rw [hd] at h2
  simp only [Bool.not_true, Bool.false_or] at h2
  obtain ⟨e, he, hb⟩ := Array.any_eq_true'.1 h2
  simp only [Bool.and_eq_true, Bool.or_eq_true, beq_iff_eq] at hb
  exact ⟨e, he, hb.1, hb.2⟩
theorem Closed.set {ops : Array Oper} {B : Array Nat} {L : Array Bool} (hB : depOk ops B = true) (hc : Closed B L) (hsz : L.size = ops.size) {j : Nat} (hj : j ∈ Region.ready .any ops L) :
    Closed B (L.setIfInBounds j true) := by
  intro i hi l hl
  obtain ⟨hjun, oj, hoj, hall⟩ := mem_ready.1 hj
  have hlt : j < L.size := by rw [hsz]; exact (Array.getElem?_eq_some_iff.1 hoj).1
  have hji : j ≠ i := fun e => by subst e; simp [hlt] at hi
  have hi' : L.getD i true = false := by rw [getD_set_ne true hji] at hi; exact hi
  by_cases e : j = l
  · subst e
    cases hd : depOf B j i with
    | false => rfl
    | true =>
      have hin : i < ops.size := by
        rw [← hsz]
        rcases Nat.lt_or_ge i L.size with h' | h'
        · exact h'
        · simp [Array.getElem?_eq_none h'] at hi'
      obtain ⟨ed, he, hb, h2⟩ := depOk.spec hB i hin j oj hoj hd
      have h3 := hall ed he hb
      rcases h2 with h2 | h2
      · rw [h2] at h3
        rcases Nat.lt_or_ge i L.size with h' | h'
        · simp [h'] at hi' h3; rw [hi'] at h3; cases h3
        · simp [Array.getElem?_eq_none h'] at h3
      · rw [hc i hi' ed.on h3] at h2; cases h2
  · rw [getD_set_ne false e] at hl; exact hc i hi' l hl

theorem vcDraw_sound {P : Program} {ops : Array Oper} {B : Array Nat} {n : Nat} {Q : Exit → Act → World → Prop} (hsel : Region.noSelect ops = true) (hB : depOk ops B = true)
    (hd : (ops.toList.all fun o => o.dst.all (· < n)) = true) (hPQ : ∀ c a d v w, Q (.panic c) (Act.put a d v) w → Q (.panic c) a w) {K : KE} :
    ∀ (fuel : Nat) (L : Array Bool) (Φ : FactsH) (e : Env) (h : Heap), vcDraw P ops B fuel L Φ e h K → ∀ (w : World), w.heap = h → L.size = ops.size → Closed B L →
      holdsF (loudOf P ops) (depOf B) ops.size (liftF Φ) L w → ∀ (a : Act), Rel n e a → (∀ e' a' w', Rel n e' a' → Rest w w' → Same (dstsL ops.toList) e e' → K e' w'.heap → Q .normal a' w') →
      wpAnyF P .any ops Q (loudOf P ops) (depOf B) (liftF Φ) fuel L a w := by
  have dstOk : ∀ (i : Nat) (o : Oper), ops[i]? = some o → o.dst.all (· < n) = true := fun i o ho =>
    List.all_eq_true.1 hd o (Array.mem_toList_iff.2 (Array.mem_of_getElem? ho))
  have sameOk : ∀ (i : Nat) (o : Oper), ops[i]? = some o → ∀ (e : Env) (v : Value), Same (dstsL ops.toList) e (putE e o.dst v) := fun i o ho e v =>
    Same.put (fun x hx => mem_dstsL hx _ (Array.mem_toList_iff.2 (Array.mem_of_getElem? ho))) v
  intro fuel
  induction fuel with
  | zero =>
    intro L Φ e h hk w hw hsz hcl hF a ha hQ
    unfold vcDraw at hk
    split at hk
    · rename_i hr
      exact ⟨hr, hQ e a w ha (.refl w) (.refl _ _) (hw ▸ hk)⟩
    · exact hk.elim
  | succ fuel ih =>
    intro L Φ e h hk w hw hsz hcl hF a ha hQ
    unfold vcDraw at hk
    split at hk
    · rename_i hr
      exact ⟨fun _ => hQ e a w ha (.refl w) (.refl _ _) (hw ▸ hk), by rw [hr]; simp⟩
    · rename_i rs hrs
      have hne : Region.ready .any ops L ≠ [] := by
        intro h0; exact hrs h0
      split at hk
      · -- an operation that is silent is taken first
        rename_i i hp
        have hmem : i ∈ Region.ready .any ops L := List.mem_of_find?_eq_some hp
        have hpred := List.find?_some hp
        split at hk
        · rename_i o ho
          simp only [ho, Bool.and_eq_true] at hpred
          have hl : loudOf P ops i = false := by simp [loudOf, ho, hpred.1]
          have hlt : i < ops.size := (Array.getElem?_eq_some_iff.1 ho).1
          have hdep := depOk.spec hB i hlt
          have hun := (mem_ready.1 hmem).1
          have take : ∀ (v : Value) (φ : World → Prop) (Φ' : FactsH), YieldsIf P ops φ o v a → φ w → (∀ x ∈ (i, φ) :: liftF Φ, x ∈ liftF Φ' ∨ ∀ w, x.2 w) →
              holdsF (loudOf P ops) (depOf B) ops.size (liftF Φ') L w → vcDraw P ops B fuel (L.setIfInBounds i true) Φ' (putE e o.dst v) h K →
              wpAnyF P .any ops Q (loudOf P ops) (depOf B) (liftF Φ) (fuel + 1) L a w := fun v φ Φ' hy hφ hin hF' hk' => by
            refine wpAnyF_first ho (Region.noSelect_spec hsel) (fun c a w => hPQ c a _ v w) hl hdep fuel L a w (Region.free_spec ho hpred.2) hmem (hcl i hun) hy hφ hF ?_
            refine wpAnyF.weaken hin fuel _ _ _ (ih _ Φ' _ h hk' w hw (by simp [hsz]) (hcl.set hB hsz hmem) (fun x hx hal => hF' x hx (by rwa [alive_silent hl] at hal)) _ (ha.put (dstOk i o ho) v) fun e' a' w'' q1 q2 q3 q4 => hQ e' a' w'' q1 q2 ((sameOk i o ho e v).trans q3) q4)
          rcases guardK.cases hk ha with ⟨hwd, hk⟩ | ⟨hwd, hk⟩
          · split at hk
            · obtain ⟨v, hv, hk⟩ := vcPure_sound hk
              exact take v (fun _ => True) Φ (.inl ⟨hwd, fun w _ => by rw [ha.eval]; exact hv w⟩) trivial (fun x hx => by
                rcases List.mem_cons.1 hx with rfl | hx
                · exact .inr fun _ => trivial
                · exact .inl hx) hF hk
            · split at hk
              · rename_i t x hop
                split at hk
                · rename_i p hx
                  obtain ⟨ad, hp2, hk2⟩ := hk.ex
                  subst hp2
                  obtain ⟨v, vs, hk3, hc, hy⟩ := loadF_yields hk2
                  refine take v (fun w => cellsAre w.heap ad 0 vs) ((i, fun h' => cellsAre h' ad 0 vs) :: Φ) (.inl ⟨hwd, fun w hw' => ?_⟩) (hw ▸ hc) (fun x hx => .inl hx) ?_ hk3
                  · have hex : execOp (opnd e) o = (do pure (Next.value (← Instr.loadAt t (opnd e x)))) := by unfold execOp; rw [hop]
                    rw [ha.eval, hex, hx]
                    simp only [Sem.run_bind, hy w hw', Result.andThen_ok, Sem.run_pure]
                  · intro x hx hal
                    rcases List.mem_cons.1 hx with rfl | hx
                    · show cellsAre w.heap ad 0 vs
                      exact hw ▸ hc
                    · exact hF x hx hal
                · exact hk.elim
              · exact hk.elim
          · exact take undef (fun _ => True) Φ (.inr ⟨hwd, rfl⟩) trivial (fun x hx => by
              rcases List.mem_cons.1 hx with rfl | hx
              · exact .inr fun _ => trivial
              · exact .inl hx) hF hk
        · exact hk.elim
      · -- whichever of the others comes up
        refine ⟨fun h0 => absurd h0 hne, fun i hi => ?_⟩
        have hk := hk.get i hi
        split at hk
        · rename_i o ho
          unfold wpOp
          simp only [ho]
          have lifted : ∀ (w' : World), (∀ x ∈ Φ, aliveAt (loudOf P ops) (depOf B) ops.size (L.setIfInBounds i true) x.1 = true → x.2 w'.heap) →
              holdsF (loudOf P ops) (depOf B) ops.size (liftF Φ) (L.setIfInBounds i true) w' := fun w' h1 x hx hal => by
            obtain ⟨y, hy, rfl⟩ := List.mem_map.1 hx
            exact h1 y hy hal
          rcases guardK.cases hk ha with ⟨hwd, hk⟩ | ⟨hwd, hk⟩
          · rw [if_pos hwd]
            refine .inl (vcOp_sound hk w hw n a ha _ Q fun v w' hr hk' => ?_)
            obtain ⟨h1, h2⟩ := hk'.to
            exact ⟨lifted w' h1, ih _ Φ _ _ h2 w' rfl (by simp [hsz]) (hcl.set hB hsz hi) (lifted w' h1) _ (ha.put (dstOk i o ho) v)
              fun e' a' w'' q1 q2 q3 q4 => hQ e' a' w'' q1 (hr.trans q2) ((sameOk i o ho e v).trans q3) q4⟩
          · rw [if_neg (by simp [hwd])]
            have hF' : holdsF (loudOf P ops) (depOf B) ops.size (liftF Φ) (L.setIfInBounds i true) w := fun x hx hal => hF x hx (by
              unfold aliveAt at hal ⊢
              rw [List.all_eq_true] at hal ⊢
              intro l hl
              have := hal l hl
              by_cases e : i = l
              · subst e
                have hun := (mem_ready.1 hi).1
                have : L.getD i false = false := by
                  rcases Nat.lt_or_ge i L.size with h' | h'
                  · simp [h'] at hun ⊢; exact hun
                  · simp [Array.getElem?_eq_none h']
                simp [this]
              · rw [getD_set_ne false e] at this; exact this)
            exact ⟨hF', ih _ Φ _ h hk w hw (by simp [hsz]) (hcl.set hB hsz hi) hF' _ (ha.put (dstOk i o ho) undef) fun e' a' w'' q1 q2 q3 q4 => hQ e' a' w'' q1 q2 ((sameOk i o ho e undef).trans q3) q4⟩
        · exact hk.elim
end Go.VC
