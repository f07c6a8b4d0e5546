/- Separation: assertions over blocks, what a call holds, and the steps. Conditions: none. -/
import Derived.Test.YtofaihacmoacjaaDoorM6
namespace Go.VC
open Go
set_option linter.unusedSimpArgs false
set_option linter.unusedVariables false

/-- An assertion: of which blocks it speaks, and what it says of them. -/
structure A where
  P : (Nat → Prop) → Heap → Prop
  loc : ∀ F h h', P F h → (∀ b, F b → h'[b]? = h[b]?) → P F h'
  lt : ∀ F h, P F h → ∀ b, F b → b < h.size
def Holds : List A → (Nat → Prop) → Heap → Prop
  | [], F, _ => ∀ b, ¬ F b
  | a :: r, F, h => ∃ F1 F2, a.P F1 h ∧ Holds r F2 h ∧ (∀ b, F1 b → ¬ F2 b) ∧ ∀ b, F b ↔ F1 b ∨ F2 b
theorem Holds.loc : ∀ {L : List A} {F : Nat → Prop} {h h' : Heap}, Holds L F h → (∀ b, F b → h'[b]? = h[b]?) → Holds L F h'
  | [], _, _, _, k, _ => k
  | a :: r, F, h, h', ⟨F1, F2, k1, k2, d, e⟩, hk => ⟨F1, F2, a.loc _ _ _ k1 fun b hb => hk b ((e b).2 (.inl hb)), Holds.loc k2 fun b hb => hk b ((e b).2 (.inr hb)), d, e⟩
theorem Holds.lt : ∀ {L : List A} {F : Nat → Prop} {h : Heap}, Holds L F h → ∀ b, F b → b < h.size
  | [], _, _, k, b, hb => (k b hb).elim
  | a :: r, F, h, ⟨F1, F2, k1, k2, d, e⟩, b, hb => ((e b).1 hb).elim (a.lt _ _ k1 b) (Holds.lt k2 b)
theorem Holds.append : ∀ {L R : List A} {F : Nat → Prop} {h : Heap}, Holds (L ++ R) F h ↔ ∃ F1 F2, Holds L F1 h ∧ Holds R F2 h ∧ (∀ b, F1 b → ¬ F2 b) ∧ ∀ b, F b ↔ F1 b ∨ F2 b
  | [], R, F, h => by
    constructor
    · intro k
      exact ⟨fun _ => False, F, fun _ => id, k, fun _ h => h.elim, fun b => by simp⟩
    · rintro ⟨F1, F2, k1, k2, d, e⟩
      have : F = F2 := by
        funext b
        exact propext ((e b).trans ⟨fun h => h.elim (fun h => (k1 b h).elim) id, .inr⟩)
      subst this; exact k2
  | a :: L, R, F, h => by
    simp only [List.cons_append, Holds, Holds.append (L := L)]
    constructor
    · rintro ⟨F1, F2, k1, ⟨F3, F4, k3, k4, d', e'⟩, d, e⟩
      refine ⟨fun b => F1 b ∨ F3 b, F4, ⟨F1, F3, k1, k3, fun b hb hc => d b hb ((e' b).2 (.inl hc)), fun _ => Iff.rfl⟩, k4, ?_, fun b => ?_⟩
      · rintro b (hb | hb) hc
        · exact d b hb ((e' b).2 (.inr hc))
        · exact d' b hb hc
      · rw [e, e']; exact or_assoc.symm
    · rintro ⟨F1, F2, ⟨F3, F4, k3, k4, d', e'⟩, k2, d, e⟩
      refine ⟨F3, fun b => F4 b ∨ F2 b, k3, ⟨F4, F2, k4, k2, fun b hb => d b ((e' b).2 (.inr hb)), fun _ => Iff.rfl⟩, ?_, fun b => ?_⟩
      · rintro b hb (hc | hc)
        · exact d' b hb hc
        · exact d b ((e' b).2 (.inl hb)) hc
      · rw [e, e']; exact or_assoc
theorem Holds.get : ∀ {L : List A} {F : Nat → Prop} {h : Heap} {a : A}, Holds L F h → a ∈ L → ∃ F', a.P F' h ∧ ∀ b, F' b → F b
  | x :: r, F, h, a, ⟨F1, F2, k1, k2, d, e⟩, hm => by
    rcases List.mem_cons.1 hm with rfl | hm
    · exact ⟨F1, k1, fun b hb => (e b).2 (.inl hb)⟩
    · obtain ⟨F', k, hs⟩ := Holds.get k2 hm
      exact ⟨F', k, fun b hb => (e b).2 (.inr (hs b hb))⟩
theorem Holds.perm {L L' : List A} (p : L.Perm L') : ∀ {F : Nat → Prop} {h : Heap}, Holds L F h → Holds L' F h := by
  induction p with
  | nil => exact id
  | cons a _ ih => rintro F h ⟨F1, F2, k1, k2, d, e⟩; exact ⟨F1, F2, k1, ih k2, d, e⟩
  | swap a b l =>
    rintro F h ⟨F1, F2, k1, ⟨F3, F4, k3, k4, d', e'⟩, d, e⟩
    refine ⟨F3, fun x => F1 x ∨ F4 x, k3, ⟨F1, F4, k1, k4, fun x hx hy => d x hx ((e' x).2 (.inr hy)), fun _ => Iff.rfl⟩, ?_, fun x => ?_⟩
    · rintro x hx (hy | hy)
      · exact d x hy ((e' x).2 (.inl hx))
      · exact d' x hx hy
    · rw [e, e']
      constructor
      · rintro (h | h | h)
        · exact .inr (.inl h)
        · exact .inl h
        · exact .inr (.inr h)
      · rintro (h | h | h)
        · exact .inr (.inl h)
        · exact .inl h
        · exact .inr (.inr h)
  | trans _ _ ih1 ih2 => intro F h k; exact ih2 (ih1 k)

/-- What a call holds: since h0 new blocks have come, those of S may have been written; L: of what it holds, all in S or new. -/
structure St (S : Nat → Prop) (h0 h : Heap) (L : List A) : Prop where
  ext : Mod S h0 h
  own : ∃ F, Holds L F h ∧ ∀ b, F b → S b ∨ h0.size ≤ b
abbrev none_ : Nat → Prop := fun _ => False
variable {S S' F G : Nat → Prop} {h0 h h1 h2 : Heap} {L R L' : List A}
theorem St.start (k : Holds L F h) : St F h h L := ⟨.refl _ _, F, k, fun _ => .inl⟩
theorem St.fresh (h : Heap) : St none_ h h [] := ⟨.refl _ _, fun _ => False, fun _ => id, fun _ h => h.elim⟩
theorem St.next (k : St S h0 h L) (m : Ext h h1) : St S h0 h1 L := by
  obtain ⟨F, hh, hf⟩ := k.own
  exact ⟨k.ext.then m, F, hh.loc fun b hb => m.keep b (hh.lt b hb) id, hf⟩
theorem St.perm (k : St S h0 h L) (p : L.Perm L') : St S h0 h L' := by
  obtain ⟨F, hh, hf⟩ := k.own
  exact ⟨k.ext, F, hh.perm p, hf⟩
/-- A part of what is held, for a call that holds just this; what it leaves comes in its place. -/
theorem St.frame (k : St S h0 h (L ++ R)) : ∃ F G, Holds L F h ∧ Holds R G h ∧ (∀ b, F b → ¬ G b) ∧ (∀ b, F b → S b ∨ h0.size ≤ b) ∧ ∀ {h' : Heap} {L' : List A}, St F h h' L' → St S h0 h' (L' ++ R) := by
  obtain ⟨F, hh, hf⟩ := k.own
  obtain ⟨F1, F2, k1, k2, d, e⟩ := Holds.append.1 hh
  refine ⟨F1, F2, k1, k2, d, fun b hb => hf b ((e b).2 (.inl hb)), fun {h' L'} k' => ?_⟩
  obtain ⟨F3, k3, hf3⟩ := k'.own
  refine ⟨k.ext.trans k'.ext fun b hb => hf b ((e b).2 (.inl hb)), fun b => F3 b ∨ F2 b, Holds.append.2 ⟨F3, F2, k3, k2.loc fun b hb => k'.ext.keep b (k2.lt b hb) fun hc => d b hc hb, fun b hb hc => ?_, fun _ => Iff.rfl⟩, ?_⟩
  · rcases hf3 b hb with h4 | h4
    · exact d b h4 hc
    · have := k2.lt b hc; omega
  · rintro b (hb | hb)
    · rcases hf3 b hb with h4 | h4
      · exact hf b ((e b).2 (.inl h4))
      · have := k.ext.size; exact .inr (by omega)
    · exact hf b ((e b).2 (.inr hb))
theorem St.frame1 {a : A} (k : St S h0 h (a :: R)) : ∃ F G, a.P F h ∧ Holds R G h ∧ (∀ b, F b → ¬ G b) ∧ (∀ b, F b → S b ∨ h0.size ≤ b) ∧ ∀ {h' : Heap} {L' : List A}, St F h h' L' → St S h0 h' (L' ++ R) := by
  obtain ⟨F, G, k1, k2, d, hf, back⟩ := St.frame (L := [a]) k
  obtain ⟨F1, F2, q1, q2, q3, q4⟩ := k1
  have : F = F1 := by
    funext b
    exact propext ((q4 b).trans ⟨fun h => h.elim id (fun h => (q2 b h).elim), .inl⟩)
  subst this
  exact ⟨F, G, q1, k2, d, hf, back⟩
/-- A call that holds nothing of ours. -/
theorem St.add (k : St S h0 h R) (k' : St none_ h h1 L') : St S h0 h1 (L' ++ R) := by
  obtain ⟨F, G, k1, k2, d, hf, back⟩ := St.frame (L := []) k
  have : F = none_ := by
    funext b
    exact propext ⟨fun h => (k1 b h).elim, fun h => h.elim⟩
  subst this
  exact back k'
theorem St.drop {a : A} (k : St S h0 h (a :: R)) : St S h0 h R := by
  obtain ⟨F, ⟨F1, F2, k1, k2, d, e⟩, hf⟩ := k.own
  exact ⟨k.ext, F2, k2, fun b hb => hf b ((e b).2 (.inr hb))⟩
theorem St.dropL (k : St S h0 h (L ++ R)) : St S h0 h R := by
  induction L with
  | nil => exact k
  | cons a L ih => exact ih k.drop
theorem St.pull1 {a b : A} (k : St S h0 h (a :: b :: R)) : St S h0 h (b :: a :: R) := k.perm (List.Perm.swap _ _ _)
theorem St.pull2 {a b c : A} (k : St S h0 h (a :: b :: c :: R)) : St S h0 h (c :: a :: b :: R) :=
  (k.perm ((List.Perm.swap c b R).cons a)).pull1
theorem St.pull3 {a b c d : A} (k : St S h0 h (a :: b :: c :: d :: R)) : St S h0 h (d :: a :: b :: c :: R) :=
  (k.perm (((List.Perm.swap d c R).cons b).cons a)).pull2
theorem St.pull4 {a b c d e : A} (k : St S h0 h (a :: b :: c :: d :: e :: R)) : St S h0 h (e :: a :: b :: c :: d :: R) :=
  (k.perm ((((List.Perm.swap e d R).cons c).cons b).cons a)).pull3
theorem St.pull5 {a b c d e f : A} (k : St S h0 h (a :: b :: c :: d :: e :: f :: R)) : St S h0 h (f :: a :: b :: c :: d :: e :: R) :=
  (k.perm (((((List.Perm.swap f e R).cons d).cons c).cons b).cons a)).pull4
theorem St.pull6 {a b c d e f g : A} (k : St S h0 h (a :: b :: c :: d :: e :: f :: g :: R)) : St S h0 h (g :: a :: b :: c :: d :: e :: f :: R) :=
  (k.perm ((((((List.Perm.swap g f R).cons e).cons d).cons c).cons b).cons a)).pull5
theorem St.pull7 {a b c d e f g x : A} (k : St S h0 h (a :: b :: c :: d :: e :: f :: g :: x :: R)) : St S h0 h (x :: a :: b :: c :: d :: e :: f :: g :: R) :=
  (k.perm (((((((List.Perm.swap x g R).cons f).cons e).cons d).cons c).cons b).cons a)).pull6
theorem St.pull8 {a b c d e f g x y : A} (k : St S h0 h (a :: b :: c :: d :: e :: f :: g :: x :: y :: R)) : St S h0 h (y :: a :: b :: c :: d :: e :: f :: g :: x :: R) :=
  (k.perm ((((((((List.Perm.swap y x R).cons g).cons f).cons e).cons d).cons c).cons b).cons a)).pull7
theorem St.pull9 {a b c d e f g x y z : A} (k : St S h0 h (a :: b :: c :: d :: e :: f :: g :: x :: y :: z :: R)) : St S h0 h (z :: a :: b :: c :: d :: e :: f :: g :: x :: y :: R) :=
  (k.perm (((((((((List.Perm.swap z y R).cons x).cons g).cons f).cons e).cons d).cons c).cons b).cons a)).pull8
theorem St.pull10 {a b c d e f g x y z u : A} (k : St S h0 h (a :: b :: c :: d :: e :: f :: g :: x :: y :: z :: u :: R)) : St S h0 h (u :: a :: b :: c :: d :: e :: f :: g :: x :: y :: z :: R) :=
  (k.perm ((((((((((List.Perm.swap u z R).cons y).cons x).cons g).cons f).cons e).cons d).cons c).cons b).cons a)).pull9
/-- What is held is held in another form. -/
theorem St.turn {a : A} {L : List A} (k : St S h0 h (a :: R)) (t : ∀ F, a.P F h → ∃ F', Holds L F' h ∧ ∀ b, F' b → F b) : St S h0 h (L ++ R) := by
  obtain ⟨F, G, k1, k2, d, hf, back⟩ := k.frame1
  obtain ⟨F', q, hs⟩ := t F k1
  exact back ⟨.refl _ _, F', q, fun b hb => .inl (hs b hb)⟩
theorem St.turnL {K L : List A} (k : St S h0 h (K ++ R)) (t : ∀ F, Holds K F h → ∃ F', Holds L F' h ∧ ∀ b, F' b → F b) : St S h0 h (L ++ R) := by
  obtain ⟨F, G, k1, k2, d, hf, back⟩ := k.frame
  obtain ⟨F', q, hs⟩ := t F k1
  exact back ⟨.refl _ _, F', q, fun b hb => .inl (hs b hb)⟩

/-! ### Assertions -/
/-- A whole block. -/
def A.blk (b : Nat) (cs : Array Value) (t : Nat) : A where
  P F h := Blk h b cs t ∧ ∀ x, F x ↔ x = b
  loc F h h' k e := ⟨by have := e b ((k.2 b).2 rfl); unfold Blk at *; rw [this]; exact k.1, k.2⟩
  lt F h k b hb := by rw [(k.2 b).1 hb]; exact k.1.lt
/-- A slice with its room. -/
def A.vec (e sz : Nat) (a : Option Addr) (l c : Nat) (vs : List Value) : A where
  P F h := Vec h e sz a l c vs ∧ (∀ x, F x ↔ 0 < c ∧ ob a = some x) ∧ 0 < sz ∧ c < 9223372036854775808
  loc F h h' k q := ⟨by
    obtain ⟨⟨k1, k2, k3, k4⟩, kF, hs⟩ := k
    refine ⟨k1, k2, fun j v hj => ?_, ?_⟩
    · obtain ⟨ad, rfl, hc⟩ := k3 j v hj
      refine ⟨ad, rfl, ?_⟩
      have hlt := (List.getElem?_eq_some_iff.1 hj).1
      have h0 : 0 < c := by
        rcases Nat.eq_zero_or_pos c with h | h
        · subst h; have : l = 0 := by omega
          subst this; rw [k1, Nat.zero_mul] at hlt; omega
        · exact h
      have := q ad.block ((kF _).2 ⟨h0, rfl⟩)
      unfold cellH at *
      rw [add_block] at *
      rw [this]; exact hc
    · rcases k4 with h | ⟨g, o, cur, rfl, hB, hsz⟩
      · exact .inl h
      · rcases Nat.eq_zero_or_pos c with h | h
        · exact .inl h
        · refine .inr ⟨g, o, cur, rfl, ?_, hsz⟩
          have := q g ((kF _).2 ⟨h, rfl⟩)
          unfold Blk at *; rw [this]; exact hB, k.2⟩
  lt F h k b hb := by
    obtain ⟨h1, h2⟩ := (k.2.1 b).1 hb
    exact k.1.lt h1 b h2
/-- Several together. -/
def A.all (L : List A) : A where
  P F h := Holds L F h
  loc _ _ _ k e := k.loc e
  lt _ _ k := k.lt
/-- Some one of many. -/
def A.ex {α : Type} (f : α → A) : A where
  P F h := ∃ x, (f x).P F h
  loc _ _ _ k e := let ⟨x, k⟩ := k; ⟨x, (f x).loc _ _ _ k e⟩
  lt _ _ k := let ⟨x, k⟩ := k; (f x).lt _ _ k
/-- With a fact. -/
def A.fact (p : Prop) (a : A) : A where
  P F h := p ∧ a.P F h
  loc _ _ _ k e := ⟨k.1, a.loc _ _ _ k.2 e⟩
  lt _ _ k := a.lt _ _ k.2
theorem St.open (k : St S h0 h (A.all L :: R)) : St S h0 h (L ++ R) := k.turn fun F q => ⟨F, q, fun _ => id⟩
theorem St.close (k : St S h0 h (L ++ R)) : St S h0 h (A.all L :: R) := by
  obtain ⟨F, hh, hf⟩ := k.own
  obtain ⟨F1, F2, k1, k2, d, e⟩ := Holds.append.1 hh
  exact ⟨k.ext, F, ⟨F1, F2, k1, k2, d, e⟩, hf⟩
theorem St.opens {α : Type} {f : α → A} (k : St S h0 h (A.ex f :: R)) : ∃ x, St S h0 h (f x :: R) := by
  obtain ⟨F, ⟨F1, F2, ⟨x, k1⟩, k2, d, e⟩, hf⟩ := k.own
  exact ⟨x, k.ext, F, ⟨F1, F2, k1, k2, d, e⟩, hf⟩
theorem St.closes {α : Type} {f : α → A} {x : α} (k : St S h0 h (f x :: R)) : St S h0 h (A.ex f :: R) := by
  obtain ⟨F, ⟨F1, F2, k1, k2, d, e⟩, hf⟩ := k.own
  exact ⟨k.ext, F, ⟨F1, F2, ⟨x, k1⟩, k2, d, e⟩, hf⟩
theorem St.facts {p : Prop} {a : A} (k : St S h0 h (A.fact p a :: R)) : p ∧ St S h0 h (a :: R) := by
  obtain ⟨F, ⟨F1, F2, k1, k2, d, e⟩, hf⟩ := k.own
  exact ⟨k1.1, k.ext, F, ⟨F1, F2, k1.2, k2, d, e⟩, hf⟩
theorem St.mkfact {p : Prop} {a : A} (hp : p) (k : St S h0 h (a :: R)) : St S h0 h (A.fact p a :: R) := by
  obtain ⟨F, ⟨F1, F2, k1, k2, d, e⟩, hf⟩ := k.own
  exact ⟨k.ext, F, ⟨F1, F2, ⟨hp, k1⟩, k2, d, e⟩, hf⟩

theorem Holds.one {x : A} (k : Holds [x] F h) : x.P F h := by
  obtain ⟨F1, F2, k1, k2, d, e⟩ := k
  have : F = F1 := by
    funext b
    exact propext ((e b).trans ⟨fun h => h.elim id (fun h => (k2 b h).elim), .inl⟩)
  subst this; exact k1
theorem Holds.mk1 {x : A} (k : x.P F h) : Holds [x] F h := ⟨F, fun _ => False, k, fun _ => id, fun _ _ h => h, fun _ => by simp⟩
theorem St.allPerm (k : St S h0 h (A.all L :: R)) (p : L.Perm L') : St S h0 h (A.all L' :: R) :=
  k.turn (L := [A.all L']) fun F q => ⟨F, .mk1 (Holds.perm p (show Holds L F h from q)), fun _ => id⟩
theorem St.allIn {x : A} (k : St S h0 h (x :: A.all L :: R)) : St S h0 h (A.all (x :: L) :: R) :=
  St.turnL (K := [x, A.all L]) (L := [A.all (x :: L)]) k fun F ⟨F1, F2, k1, k2, d, e⟩ => ⟨F, .mk1 (show Holds (x :: L) F h from ⟨F1, F2, k1, (show Holds L F2 h from k2.one), d, e⟩), fun _ => id⟩
theorem St.allOut {x : A} (k : St S h0 h (A.all (x :: L) :: R)) : St S h0 h (x :: A.all L :: R) :=
  k.turn (L := [x, A.all L]) fun F ⟨F1, F2, k1, k2, d, e⟩ => ⟨F, ⟨F1, F2, k1, .mk1 (show Holds L F2 h from k2), d, e⟩, fun _ => id⟩
theorem St.allParts {L1 L2 : List A} (k : St S h0 h (A.all (L1 ++ L2) :: R)) : St S h0 h (A.all L1 :: A.all L2 :: R) :=
  k.turn (L := [A.all L1, A.all L2]) fun F q => by
    obtain ⟨F1, F2, k1, k2, d, e⟩ := Holds.append.1 (show Holds (L1 ++ L2) F h from q)
    exact ⟨F, ⟨F1, F2, k1, .mk1 k2, d, e⟩, fun _ => id⟩
theorem St.allJoin {L1 L2 : List A} (k : St S h0 h (A.all L1 :: A.all L2 :: R)) : St S h0 h (A.all (L1 ++ L2) :: R) :=
  St.turnL (K := [A.all L1, A.all L2]) (L := [A.all (L1 ++ L2)]) k fun F ⟨F1, F2, k1, k2, d, e⟩ =>
    ⟨F, .mk1 (show Holds (L1 ++ L2) F h from Holds.append.2 ⟨F1, F2, k1, k2.one, d, e⟩), fun _ => id⟩
theorem St.all0 (k : St S h0 h R) : St S h0 h (A.all [] :: R) := St.close (L := []) k
/-! ### Blocks: which cells they hold, by their number -/
class InB (L : List A) (b : Nat) (cs : outParam (Array Value)) (t : outParam Nat) : Prop where
  mem : A.blk b cs t ∈ L
instance (priority := high) InB.head {b t : Nat} {cs : Array Value} {L : List A} : InB (A.blk b cs t :: L) b cs t := ⟨List.mem_cons_self⟩
instance InB.tail {b t : Nat} {cs : Array Value} {x : A} {L : List A} [k : InB L b cs t] : InB (x :: L) b cs t := ⟨List.mem_cons_of_mem _ k.mem⟩
class PutB (L : List A) (b : Nat) (cs cs' : Array Value) (t : Nat) (L' : outParam (List A)) : Prop where
  put : ∀ {F : Nat → Prop} {h h1 : Heap}, Holds L F h → Blk h1 b cs' t → Mod (· = b) h h1 → Holds L' F h1 ∧ F b
instance (priority := high) PutB.head {b t : Nat} {cs cs' : Array Value} {L : List A} : PutB (A.blk b cs t :: L) b cs cs' t (A.blk b cs' t :: L) where
  put := by
    rintro F h h1 ⟨F1, F2, k1, k2, d, e⟩ hB m
    refine ⟨⟨F1, F2, ⟨hB, k1.2⟩, k2.loc fun x hx => m.keep x (k2.lt x hx) fun hb => d x ((k1.2 x).2 hb) hx, d, e⟩, (e b).2 (.inl ((k1.2 b).2 rfl))⟩
instance PutB.tail {b t : Nat} {cs cs' : Array Value} {x : A} {L L' : List A} [k : PutB L b cs cs' t L'] : PutB (x :: L) b cs cs' t (x :: L') where
  put := by
    rintro F h h1 ⟨F1, F2, k1, k2, d, e⟩ hB m
    obtain ⟨q1, q2⟩ := k.put k2 hB m
    exact ⟨⟨F1, F2, x.loc _ _ _ k1 fun y hy => m.keep y (x.lt _ _ k1 y hy) fun hb => d y hy (hb ▸ q2), q1, d, e⟩, (e b).2 (.inr q2)⟩
theorem St.blk (k : St S h0 h L) {b t : Nat} {cs : Array Value} [q : InB L b cs t] : Blk h b cs t := by
  obtain ⟨F, hh, hf⟩ := k.own
  obtain ⟨F', k', _⟩ := hh.get q.mem
  exact k'.1
theorem St.rd (k : St S h0 h L) {b t i : Nat} {cs : Array Value} [q : InB L b cs t] {v : Value} (hv : cs[i]? = some v) : cellH h ⟨b, i, none⟩ = some v := by
  rw [k.blk.cell]; exact hv
theorem St.put (k : St S h0 h L) {b t : Nat} {cs cs' : Array Value} [q : PutB L b cs cs' t L'] (hB : Blk h1 b cs' t) (m : Mod (· = b) h h1) : St S h0 h1 L' := by
  obtain ⟨F, hh, hf⟩ := k.own
  obtain ⟨q1, q2⟩ := q.put hh hB m
  exact ⟨k.ext.trans m fun x hx => by subst hx; exact hf _ q2, F, q1, hf⟩
theorem St.vst (k : St S h0 h L) {b t i : Nat} {cs : Array Value} {v : Value} [p : InB L b cs t] [q : PutB L b cs (cs.setIfInBounds i v) t L'] {K : Heap → Prop} (hi : i < cs.size)
    (c : ∀ h1, St S h0 h1 L' → K h1) : VStore h ⟨b, i, none⟩ v K :=
  VStore.mk (St.blk (q := p) k) hi fun h1 hB m _ => c h1 (St.put (q := q) k hB m)
theorem St.vall (k : St S h0 h L) {b t : Nat} {cs : Array Value} {vs : List Value} [p : InB L b cs t] [q : PutB L b cs vs.toArray t L'] {K : Heap → Prop} (hl : vs.length = cs.size) (hv : vs.all oneC = true)
    (c : ∀ h1, St S h0 h1 L' → K h1) : storeL ⟨b, 0, none⟩ 0 vs h K :=
  storeL.all (St.blk (q := p) k) hl (List.all_eq_true.1 hv) fun h1 hB m _ => c h1 (St.put (q := q) k hB m)
theorem St.alloc {cs : Array Value} {t b : Nat} (k : St S h0 h L) (hb : b = h.size) (hB : Blk h1 b cs t) (m : Ext h h1) : St S h0 h1 (A.blk b cs t :: L) :=
  k.add (L' := [A.blk b cs t]) ⟨m, fun x => x = b, ⟨fun x => x = b, fun _ => False, ⟨hB, fun _ => Iff.rfl⟩, fun _ => id, fun _ _ h => h, fun _ => by simp⟩, fun x hx => .inr (by omega)⟩
theorem St.vnew {cs : Array Value} {t : Nat} {K : Nat → Heap → Prop} (k : St S h0 h L) (c : ∀ b h1, St S h0 h1 (A.blk b cs t :: L) → K b h1) : VNew h (.cells cs t) K :=
  VNew.mk fun b h1 hb hB m _ => c b h1 (k.alloc hb hB m)
end Go.VC
