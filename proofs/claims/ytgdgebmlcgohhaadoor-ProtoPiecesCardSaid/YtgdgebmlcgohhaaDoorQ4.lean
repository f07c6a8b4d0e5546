/- Package proto: forms of requests and replies, in plain Lean. Conditions: none. -/
import Derived.Test.YtgdgebmlcgohhaaDoorQ3
namespace Go.Proofs.YtgdgebmlcgohhaaDoor.F
open Go Go.VC Go.Proofs
set_option linter.unusedSimpArgs false
set_option linter.unusedVariables false
set_option maxRecDepth 100000

variable {α β γ : Type}
/-- A reader in plain Lean: what is read, and what is left. -/
abbrev Po (α : Type) := Bytes → Option (α × Bytes)
def bindO (f : Po α) (g : α → Po β) : Po β := fun b => match f b with
  | some (x, r) => g x r
  | none => none
def retO (x : α) : Po α := fun b => some (x, b)
def noO : Po α := fun _ => none
theorem bindO_some {f : Po α} {g : α → Po β} {b r : Bytes} {y : β} : bindO f g b = some (y, r) ↔ ∃ x r1, f b = some (x, r1) ∧ g x r1 = some (y, r) := by
  unfold bindO
  cases h : f b with
  | none => simp
  | some p =>
    obtain ⟨x, r1⟩ := p
    simp only [Option.some.injEq, Prod.mk.injEq]
    constructor
    · intro h; exact ⟨x, r1, ⟨rfl, rfl⟩, h⟩
    · rintro ⟨_, _, ⟨rfl, rfl⟩, h⟩; exact h
theorem bindO_assoc (f : Po α) (g : α → Po β) (k : β → Po γ) : bindO (bindO f g) k = bindO f fun x => bindO (g x) k := by
  funext b
  unfold bindO
  cases f b with
  | none => rfl
  | some p => rfl
theorem bindO_ret (f : Po α) : bindO f retO = f := by
  funext b
  unfold bindO retO
  cases f b with
  | none => rfl
  | some p => rfl
theorem retO_bind (x : α) (g : α → Po β) : bindO (retO x) g = g x := rfl
/-- A form: just what is written is read. -/
def Fm (f : Po α) (p : α → Bytes) (P : α → Prop) : Prop := ∀ b x r, f b = some (x, r) ↔ P x ∧ b = p x ++ r
theorem Fm.bind {f : Po α} {g : α → Po β} {p : α → Bytes} {P : α → Prop} {q : α → β → Bytes} {Q : α → β → Prop} (key : β → α) (hf : Fm f p P) (hg : ∀ x, P x → Fm (g x) (q x) (Q x)) (hk : ∀ x y, P x → Q x y → key y = x) :
    Fm (bindO f g) (fun y => p (key y) ++ q (key y) y) (fun y => P (key y) ∧ Q (key y) y) := fun b y r => by
  rw [bindO_some]
  constructor
  · rintro ⟨x, r1, h1, h2⟩
    obtain ⟨a1, rfl⟩ := (hf _ _ _).1 h1
    obtain ⟨a3, rfl⟩ := (hg x a1 _ _ _).1 h2
    have e := hk x y a1 a3
    show (P (key y) ∧ Q (key y) y) ∧ _ = (p (key y) ++ q (key y) y) ++ r
    rw [e]
    exact ⟨⟨a1, a3⟩, by rw [List.append_assoc]⟩
  · rintro ⟨⟨h1, h2⟩, rfl⟩
    exact ⟨key y, q (key y) y ++ r, (hf _ _ _).2 ⟨h1, by rw [List.append_assoc]⟩, (hg _ h1 _ _ _).2 ⟨h2, rfl⟩⟩
theorem Fm.congr {f : Po α} {p p' : α → Bytes} {P P' : α → Prop} (k : Fm f p P) (h : ∀ x, P x ↔ P' x) (e : ∀ x, P x → p x = p' x) : Fm f p' P' := fun b x r => by
  rw [k b x r]
  constructor
  · rintro ⟨h1, h2⟩; exact ⟨(h x).1 h1, by rw [← e x h1]; exact h2⟩
  · rintro ⟨h1, h2⟩
    have h3 := (h x).2 h1
    exact ⟨h3, by rw [e x h3]; exact h2⟩
theorem Fm.ret (x : α) : Fm (retO x) (fun _ => []) (fun y => y = x) := fun b y r => by
  unfold retO
  simp only [Option.some.injEq, Prod.mk.injEq, List.nil_append]
  constructor
  · rintro ⟨h1, h2⟩; exact ⟨h1.symm, h2⟩
  · rintro ⟨h1, h2⟩; exact ⟨h1.symm, h2⟩
theorem Fm.no (p : α → Bytes) : Fm noO p (fun _ => False) := fun b y r => by
  unfold noO; simp
/-- A form of wire. -/
def ofR (f : Bytes → Rd α) : Po α := fun b => match f b with
  | .ok x n => some (x, b.drop n)
  | .err _ => none
theorem Form.fm {f : Bytes → Rd α} {p : α → Bytes} {P : α → Prop} (k : Form f p P) : Fm (ofR f) p P := fun b x r => by
  unfold ofR
  constructor
  · intro h
    cases hf : f b with
    | ok y n =>
      rw [hf] at h
      cases h
      exact ⟨(k.pg _ _ _ hf).1, k.split hf⟩
    | err e => rw [hf] at h; cases h
  · rintro ⟨h1, rfl⟩
    rw [k.gp x r h1]
    simp
/-! ### Parts -/
def oneO : Po UInt8
  | [] => none
  | c :: r => some (c, r)
theorem Fm.one : Fm oneO (fun c => [c]) (fun _ => True) := fun b x r => by
  cases b with
  | nil => simp [oneO]
  | cons c b => simp [oneO]
noncomputable def idO : Po Nat
  | b0 :: b1 :: b2 :: b3 :: r => some (un4 b0 b1 b2 b3, r)
  | _ => none
theorem Fm.id : Fm idO be4 (fun n => n < 4294967296) := fun b x r => by
  match b with
  | [] => simp [idO, be4]
  | [_] => simp [idO, be4]
  | [_, _] => simp [idO, be4]
  | [_, _, _] => simp [idO, be4]
  | b0 :: b1 :: b2 :: b3 :: s =>
    unfold idO
    constructor
    · intro h
      cases h
      exact ⟨un4_lt _ _ _ _, by rw [be4_un]; rfl⟩
    · rintro ⟨h1, h2⟩
      have h3 := un4_be h1
      unfold be4 at h2
      simp only [List.cons_append, List.nil_append, List.cons.injEq] at h2
      obtain ⟨rfl, rfl, rfl, rfl, rfl⟩ := h2
      show some (un4 _ _ _ _, s) = _
      rw [h3]
def rng64 (n : Int) : Prop := -9223372036854775808 ≤ n ∧ n < 9223372036854775808
def numO : Po Int := ofR getN
theorem Fm.num : Fm numO putN rng64 := Form.num.fm
def truB (t : Bool) : Bytes := [if t then 1 else 0]
def truO : Po Bool := bindO oneO fun c => if 1 < c.toNat then noO else retO (decide (c.toNat = 1))
theorem Fm.tru : Fm truO truB (fun _ => True) := by
  have k := Fm.bind (fun t : Bool => (if t then 1 else 0 : UInt8)) Fm.one (g := fun c => if 1 < c.toNat then noO else retO (decide (c.toNat = 1))) (q := fun _ _ => []) (Q := fun c t => c = if t then 1 else 0) (fun c _ => ?_) (fun c t _ h => h.symm)
  · refine k.congr (fun t => ?_) (fun t _ => rfl)
    simp
  · by_cases h : 1 < c.toNat
    · rw [if_pos h]
      refine (Fm.no fun _ => []).congr (fun t => ?_) (fun _ h => h.elim)
      constructor
      · exact False.elim
      · intro e; subst e
        cases t <;> exact absurd h (by decide)
    · rw [if_neg h]
      refine (Fm.ret _).congr (fun t => ?_) (fun _ _ => rfl)
      have h2 : c.toNat = 0 ∨ c.toNat = 1 := by omega
      constructor
      · rintro rfl
        rcases h2 with h3 | h3
        · rw [u8_eq h3]; decide
        · rw [u8_eq h3]; decide
      · rintro rfl
        cases t <;> rfl
def takeO (n : Int) : Po Bytes := fun b => if 0 ≤ n ∧ n ≤ b.length then some (b.take n.toNat, b.drop n.toNat) else none
theorem Fm.take (n : Int) : Fm (takeO n) (fun s => s) (fun s => (s.length : Int) = n) := fun b x r => by
  unfold takeO
  constructor
  · intro h
    split at h
    · rename_i h1
      cases h
      exact ⟨by show ((b.take n.toNat).length : Int) = n; rw [List.length_take]; omega, (List.take_append_drop _ _).symm⟩
    · cases h
  · rintro ⟨h1, rfl⟩
    subst h1
    show (if 0 ≤ (x.length : Int) ∧ (x.length : Int) ≤ ((x ++ r).length : Nat) then some ((x ++ r).take (x.length : Int).toNat, (x ++ r).drop (x.length : Int).toNat) else none) = _
    rw [if_pos (by rw [List.length_append]; omega)]
    simp
def texO : Po Bytes := bindO numO takeO
theorem Fm.tex : Fm texO putS (fun s => s.length < 9223372036854775808) := by
  have k := Fm.bind (fun s : Bytes => (s.length : Int)) Fm.num (fun n _ => Fm.take n) (fun n s _ h => h)
  refine k.congr (fun s => ?_) (fun s _ => rfl)
  constructor
  · rintro ⟨⟨_, h⟩, _⟩
    exact Int.ofNat_lt.1 h
  · intro h
    exact ⟨⟨by omega, by omega⟩, rfl⟩
def chk (p : α → Bool) (x : α) : Po α := if p x then retO x else noO
theorem Fm.chk (p : α → Bool) (x : α) : Fm (chk p x) (fun _ => []) (fun y => y = x ∧ p x = true) := by
  unfold F.chk
  cases h : p x
  · exact (Fm.no fun _ => []).congr (fun y => by simp) (fun _ h => h.elim)
  · exact (Fm.ret x).congr (fun y => by simp) (fun _ _ => rfl)
def valB (c : UInt8) : Po Val :=
  if c.toNat = 1 then bindO numO fun n => retO ⟨1, n, [], false⟩
  else if c.toNat = 2 then bindO texO fun s => retO ⟨2, 0, s, false⟩
  else if c.toNat = 3 then bindO truO fun t => retO ⟨3, 0, [], t⟩
  else retO ⟨c.toNat, 0, [], false⟩
def valO : Po Val := bindO oneO fun c => bindO (valB c) (chk validV)
theorem Fm.valB (c : UInt8) : Fm (valB c) (fun v => if c.toNat = 1 then putN v.n else if c.toNat = 2 then putS v.s else if c.toNat = 3 then truB v.b else [])
    (fun v => if c.toNat = 1 then rng64 v.n ∧ v = ⟨1, v.n, [], false⟩ else if c.toNat = 2 then v.s.length < 9223372036854775808 ∧ v = ⟨2, 0, v.s, false⟩ else if c.toNat = 3 then v = ⟨3, 0, [], v.b⟩ else v = ⟨c.toNat, 0, [], false⟩) := by
  unfold F.valB
  by_cases h1 : c.toNat = 1
  · simp only [h1, if_true]
    exact (Fm.bind (fun v : Val => v.n) Fm.num (g := fun n => retO (⟨1, n, [], false⟩ : Val)) (fun n _ => Fm.ret _) (fun n v _ h => by rw [h])).congr (fun v => Iff.rfl) (fun v _ => by simp)
  by_cases h2 : c.toNat = 2
  · simp only [h2, if_true, if_neg h1]
    exact (Fm.bind (fun v : Val => v.s) Fm.tex (g := fun s => retO (⟨2, 0, s, false⟩ : Val)) (fun n _ => Fm.ret _) (fun n v _ h => by rw [h])).congr (fun v => Iff.rfl) (fun v _ => by simp)
  by_cases h3 : c.toNat = 3
  · simp only [h3, if_true, if_neg h1, if_neg h2]
    exact (Fm.bind (fun v : Val => v.b) Fm.tru (g := fun t => retO (⟨3, 0, [], t⟩ : Val)) (fun n _ => Fm.ret _) (fun n v _ h => by rw [h])).congr (fun v => by simp) (fun v _ => by simp)
  · simp only [if_neg h1, if_neg h2, if_neg h3]
    exact Fm.ret _
theorem valid_mk {v : Val} (h : validV v = true) : (v.k = 1 ∧ v = ⟨1, v.n, [], false⟩) ∨ (v.k = 2 ∧ v = ⟨2, 0, v.s, false⟩ ∧ v.s.length ≤ 256) ∨ (v.k = 3 ∧ v = ⟨3, 0, [], v.b⟩) := by
  obtain ⟨k, n, s, b⟩ := v
  unfold validV at h
  simp only at h ⊢
  split at h
  · rename_i h1
    subst h1
    simp at h
    obtain ⟨rfl, rfl⟩ := h
    exact .inl ⟨rfl, rfl⟩
  split at h
  · rename_i h1
    subst h1
    simp at h
    obtain ⟨⟨rfl, rfl⟩, h⟩ := h
    exact .inr (.inl ⟨rfl, rfl, h⟩)
  split at h
  · rename_i h1
    subst h1
    simp at h
    obtain ⟨rfl, rfl⟩ := h
    exact .inr (.inr ⟨rfl, rfl⟩)
  · cases h
theorem Fm.val : Fm valO encV okV := by
  have k := Fm.bind (fun v : Val => UInt8.ofNat v.k.toNat) Fm.one (g := fun c => bindO (F.valB c) (F.chk validV)) (q := fun c v => if c.toNat = 1 then putN v.n else if c.toNat = 2 then putS v.s else if c.toNat = 3 then truB v.b else [])
    (Q := fun c v => okV v ∧ v.k = c.toNat) (fun c _ => ?_) (fun c v _ h => ?_)
  · refine k.congr (fun v => ?_) (fun v h => ?_)
    · constructor
      · intro h; exact h.2.1
      · intro h
        refine ⟨trivial, h, ?_⟩
        rcases valid_mk h.1 with ⟨e, _⟩ | ⟨e, _, _⟩ | ⟨e, _⟩ <;> rw [e] <;> rfl
    · obtain ⟨_, h2, h3⟩ := h
      rcases valid_mk h2.1 with ⟨e, e2⟩ | ⟨e, e2, _⟩ | ⟨e, e2⟩
      · rw [e2]; rfl
      · rw [e2]; rfl
      · rw [e2]; rfl
  · have k2 := Fm.bind (fun v : Val => v) (Fm.valB c) (g := F.chk validV) (fun v _ => Fm.chk validV v) (fun x y _ h => h.1)
    refine k2.congr (fun v => ?_) (fun v _ => by simp)
    constructor
    · rintro ⟨h1, h2, h3⟩
      split at h1
      · rename_i hc
        have e := h1.2
        refine ⟨⟨h3, h1.1.1, h1.1.2⟩, ?_⟩
        rw [e, hc]; rfl
      split at h1
      · rename_i hc
        have e := h1.2
        refine ⟨⟨h3, ?_⟩, ?_⟩
        · rw [e]; exact ⟨by show _ ≤ (0 : Int); omega, by show (0 : Int) < _; omega⟩
        · rw [e, hc]; rfl
      split at h1
      · rename_i hc
        refine ⟨⟨h3, ?_⟩, ?_⟩
        · rw [h1]; exact ⟨by show _ ≤ (0 : Int); omega, by show (0 : Int) < _; omega⟩
        · rw [h1, hc]; rfl
      · rename_i hc1 hc2 hc3
        rw [h1] at h3
        rcases valid_mk h3 with ⟨e, _⟩ | ⟨e, _⟩ | ⟨e, _⟩
        · have e : (c.toNat : Int) = 1 := e
          omega
        · have e : (c.toNat : Int) = 2 := e
          omega
        · have e : (c.toNat : Int) = 3 := e
          omega
    · rintro ⟨⟨h1, h2⟩, h3⟩
      refine ⟨?_, rfl, h1⟩
      rcases valid_mk h1 with ⟨e, e2⟩ | ⟨e, e2, e3⟩ | ⟨e, e2⟩
      · rw [if_pos (by omega)]; exact ⟨h2, e2⟩
      · rw [if_neg (by omega), if_pos (by omega)]; exact ⟨by omega, e2⟩
      · rw [if_neg (by omega), if_neg (by omega), if_pos (by omega)]; exact e2
  · rw [h.2, Int.toNat_natCast, UInt8.ofNat_toNat]
noncomputable def evO : Po Ev := ofR evR
theorem Fm.ev : Fm evO encE okE := Form.ev.fm
/-! ### Lists -/
def repO (f : Po α) : Nat → Po (List α)
  | 0 => retO []
  | n + 1 => bindO f fun x => bindO (repO f n) fun xs => retO (x :: xs)
theorem repO_snoc (f : Po α) : ∀ n, repO f (n + 1) = bindO (repO f n) fun xs => bindO f fun x => retO (xs ++ [x])
  | 0 => rfl
  | n + 1 => by
    have ih := repO_snoc f n
    show bindO f (fun x => bindO (repO f (n + 1)) fun xs => retO (x :: xs)) = bindO (bindO f fun x => bindO (repO f n) fun xs => retO (x :: xs)) _
    rw [bindO_assoc]
    congr 1
    funext x
    rw [ih, bindO_assoc, bindO_assoc]
    congr 1
    funext xs
    rw [bindO_assoc, retO_bind]
    congr 1
theorem Fm.rep {f : Po α} {p : α → Bytes} {P : α → Prop} (k : Fm f p P) : ∀ n, Fm (repO f n) (fun xs => xs.flatMap p) (fun xs => xs.length = n ∧ ∀ x ∈ xs, P x)
  | 0 => (Fm.ret ([] : List α)).congr (fun xs => by
      constructor
      · rintro rfl; exact ⟨rfl, by simp⟩
      · rintro ⟨h, _⟩; exact List.eq_nil_of_length_eq_zero h) (fun xs h => by subst h; rfl)
  | n + 1 => fun b xs r => by
    show bindO f (fun x => bindO (repO f n) fun xs => retO (x :: xs)) b = some (xs, r) ↔ _
    have ih := Fm.rep k n
    rw [bindO_some]
    constructor
    · rintro ⟨x, r1, h1, h2⟩
      obtain ⟨ys, r2, h3, h4⟩ := bindO_some.1 h2
      cases h4
      obtain ⟨a1, rfl⟩ := (k _ _ _).1 h1
      obtain ⟨⟨a2, a3⟩, rfl⟩ := (ih _ _ _).1 h3
      refine ⟨⟨by simp [a2], fun y hy => ?_⟩, by simp⟩
      rcases List.mem_cons.1 hy with rfl | hy
      · exact a1
      · exact a3 y hy
    · rintro ⟨⟨h1, h2⟩, rfl⟩
      cases xs with
      | nil => simp at h1
      | cons x ys =>
        refine ⟨x, ys.flatMap p ++ r, (k _ _ _).2 ⟨h2 x (by simp), by simp⟩, bindO_some.2 ⟨ys, r, (ih _ _ _).2 ⟨⟨by simpa using h1, fun y hy => h2 y (by simp [hy])⟩, rfl⟩, rfl⟩⟩
def manyO (f : Po α) (n : Int) : Po (List α) := fun b => if 0 ≤ n ∧ n ≤ b.length then repO f n.toNat b else none
def lisO (f : Po α) : Po (List α) := bindO numO (manyO f)
def putL (p : α → Bytes) (xs : List α) : Bytes := putN xs.length ++ xs.flatMap p
theorem flat_ge {p : α → Bytes} {P : α → Prop} (h : ∀ x, P x → 1 ≤ (p x).length) : ∀ {xs : List α}, (∀ x ∈ xs, P x) → xs.length ≤ (xs.flatMap p).length
  | [], _ => Nat.zero_le _
  | x :: xs, hx => by
    have h1 := h x (hx x (by simp))
    have h2 := flat_ge h (xs := xs) fun y hy => hx y (by simp [hy])
    rw [List.flatMap_cons, List.length_append, List.length_cons]; omega
theorem Fm.lis {f : Po α} {p : α → Bytes} {P : α → Prop} (k : Fm f p P) (h : ∀ x, P x → 1 ≤ (p x).length) : Fm (lisO f) (putL p) (fun xs => xs.length < 9223372036854775808 ∧ ∀ x ∈ xs, P x) := by
  have k2 := Fm.bind (fun xs : List α => (xs.length : Int)) Fm.num (g := manyO f) (q := fun _ xs => xs.flatMap p) (Q := fun n xs => (xs.length : Int) = n ∧ ∀ x ∈ xs, P x) (fun n _ b xs r => ?_) (fun n xs _ h => h.1)
  · refine k2.congr (fun xs => ?_) (fun xs _ => rfl)
    constructor
    · rintro ⟨⟨_, h1⟩, _, h2⟩
      exact ⟨Int.ofNat_lt.1 h1, h2⟩
    · rintro ⟨h1, h2⟩
      exact ⟨⟨by omega, by omega⟩, rfl, h2⟩
  · unfold manyO
    constructor
    · intro hh
      split at hh
      · rename_i hn
        obtain ⟨⟨a1, a2⟩, a3⟩ := (k.rep n.toNat _ _ _).1 hh
        exact ⟨⟨by omega, a2⟩, a3⟩
      · cases hh
    · rintro ⟨⟨h1, h2⟩, rfl⟩
      have h3 := flat_ge h h2
      subst h1
      rw [if_pos (by
        show 0 ≤ (xs.length : Int) ∧ (xs.length : Int) ≤ ((xs.flatMap p ++ r).length : Nat)
        rw [List.length_append]; omega)]
      exact (k.rep _ _ _ _).2 ⟨⟨by simp, h2⟩, rfl⟩
theorem putN_pos (n : Int) : 1 ≤ (putN n).length := (putZ_len 9 (zig n)).1
theorem putS_pos (s : Bytes) : 1 ≤ (putS s).length := by
  have := putN_pos s.length
  unfold putS; rw [List.length_append]; omega
theorem putL_pos (p : α → Bytes) (xs : List α) : 1 ≤ (putL p xs).length := by
  have := putN_pos xs.length
  unfold putL; rw [List.length_append]; omega
theorem encV_pos (v : Val) : 1 ≤ (encV v).length := by unfold encV; rw [List.length_cons]; omega
theorem encE_pos (e : Ev) : 1 ≤ (encE e).length := by
  have := putS_pos e.t
  unfold encE; rw [List.length_append]; omega
end Go.Proofs.YtgdgebmlcgohhaaDoor.F
