/- Package wire: forms, values, events, batches, in plain Lean. Conditions: none. -/
import Derived.Test.YtofaihacmoacjaaDoorW1
namespace Go.Proofs.YtofaihacmoacjaaDoor.F
open Go Go.VC
set_option linter.unusedSimpArgs false
set_option linter.unusedVariables false

variable {α β γ : Type}
def bindR (f : Bytes → Rd α) (g : α → Bytes → Rd β) (b : Bytes) : Rd β := match f b with
  | .ok x n => match g x (b.drop n) with
    | .ok y m => .ok y (n + m)
    | .err e => .err e
  | .err e => .err e
def retR (x : α) (_ : Bytes) : Rd α := .ok x 0
def failR (e : Int) (_ : Bytes) : Rd α := .err e
/-- A form: what is written is read, what is read would be written so, less of it ends too early. -/
structure Form (f : Bytes → Rd α) (put : α → Bytes) (P : α → Prop) : Prop where
  gp : ∀ x y, P x → f (put x ++ y) = .ok x (put x).length
  pg : ∀ b x n, f b = .ok x n → P x ∧ n = (put x).length ∧ b.take n = put x
  sh : ∀ b x n m, f b = .ok x n → m < n → f (b.take m) = .err 30
theorem Form.le {f : Bytes → Rd α} {p : α → Bytes} {P : α → Prop} (k : Form f p P) {b : Bytes} {x : α} {n : Nat} (h : f b = .ok x n) : n ≤ b.length := by
  obtain ⟨_, h2, h3⟩ := k.pg b x n h
  have := congrArg List.length h3
  rw [List.length_take] at this; omega
theorem Form.split {f : Bytes → Rd α} {p : α → Bytes} {P : α → Prop} (k : Form f p P) {b : Bytes} {x : α} {n : Nat} (h : f b = .ok x n) : b = p x ++ b.drop n := by
  obtain ⟨_, _, h3⟩ := k.pg b x n h
  conv => lhs; rw [← List.take_append_drop n b, h3]
theorem Form.more {f : Bytes → Rd α} {p : α → Bytes} {P : α → Prop} (k : Form f p P) {b : Bytes} {x : α} {n m : Nat} (h : f b = .ok x n) (hm : n ≤ m) : f (b.take m) = .ok x n := by
  obtain ⟨h1, h2, h3⟩ := k.pg b x n h
  have e : b.take m = p x ++ (b.drop n).take (m - n) := by
    conv => lhs; rw [k.split h]
    rw [List.take_append, ← h2, List.take_of_length_le (by omega)]
  rw [e, k.gp x _ h1, ← h2]
theorem Form.bind {f : Bytes → Rd α} {g : α → Bytes → Rd β} {p : α → Bytes} {P : α → Prop} {q : α → β → Bytes} {Q : α → β → Prop} (key : β → α) (hf : Form f p P) (hg : ∀ x, P x → Form (g x) (q x) (Q x)) (hk : ∀ x y, P x → Q x y → key y = x) :
    Form (bindR f g) (fun y => p (key y) ++ q (key y) y) (fun y => P (key y) ∧ Q (key y) y) where
  gp y z h := by
    unfold bindR
    rw [List.append_assoc, hf.gp _ _ h.1]
    simp only [List.drop_left]
    rw [(hg _ h.1).gp _ _ h.2, List.length_append]
  pg b y n h := by
    unfold bindR at h
    split at h
    · rename_i x m hx
      split at h
      · rename_i y' m' hy
        cases h
        obtain ⟨h1, h2, h3⟩ := hf.pg _ _ _ hx
        obtain ⟨h4, h5, h6⟩ := (hg x h1).pg _ _ _ hy
        have e := hk x y h1 h4
        rw [e]
        refine ⟨⟨h1, h4⟩, by rw [List.length_append, h2, h5], ?_⟩
        rw [List.take_add, h3, h6]
      · cases h
    · cases h
  sh b y n k h hkn := by
    unfold bindR at h
    split at h
    · rename_i x m hx
      split at h
      · rename_i y' m' hy
        cases h
        obtain ⟨h1, h2, h3⟩ := hf.pg _ _ _ hx
        unfold bindR
        by_cases hkm : k < m
        · rw [hf.sh _ _ _ _ hx hkm]
        · rw [hf.more hx (by omega)]
          simp only
          have e : (b.take k).drop m = (b.drop m).take (k - m) := by rw [List.drop_take]
          rw [e, (hg x h1).sh _ _ _ _ hy (by omega)]
      · cases h
    · cases h
theorem Form.congr {f : Bytes → Rd α} {p p' : α → Bytes} {P P' : α → Prop} (k : Form f p P) (h : ∀ x, P x ↔ P' x) (e : ∀ x, P x → p x = p' x) : Form f p' P' where
  gp x y hx := by rw [← e x ((h x).2 hx)]; exact k.gp x y ((h x).2 hx)
  pg b x n hb := by
    obtain ⟨h1, h2, h3⟩ := k.pg b x n hb
    rw [← e x h1]; exact ⟨(h x).1 h1, h2, h3⟩
  sh := k.sh
theorem Form.ret (x : α) : Form (retR x) (fun _ => []) (fun y => y = x) where
  gp y z h := by subst h; rfl
  pg b y n h := by cases h; exact ⟨rfl, rfl, rfl⟩
  sh b y n m h hm := by cases h; omega
theorem Form.fail (e : Int) (p : α → Bytes) : Form (failR e) p (fun _ => False) where
  gp y z h := h.elim
  pg b y n h := by cases h
  sh b y n m h hm := by cases h
/-! ### Numbers, texts -/
theorem Form.num : Form getN putN (fun n => -9223372036854775808 ≤ n ∧ n < 9223372036854775808) where
  gp n y h := by
    unfold getN putN
    have hz := zig_lt h.1 h.2
    rw [get_put 9 0 (zig n) 0 y rfl (by omega) (fun h => by omega)]
    simp only [Nat.zero_add, Nat.pow_zero, Nat.mul_one, zag_zig]
  pg b n m h := by
    unfold getN at h
    split at h
    · rename_i z k hz
      cases h
      obtain ⟨z', e1, e2, _, e4, e5⟩ := put_get b 9 0 0 z m rfl hz
      have e1 : z = z' := by omega
      subst e1
      have : putN (zag z) = putZ 9 z := by unfold putN; rw [zig_zag]
      rw [this]
      exact ⟨zag_lt (by omega), by omega, by rw [e4, Nat.zero_add]; exact e5⟩
    · cases h
  sh b n k m h hm := by
    unfold getN at h
    split at h
    · rename_i z k hz
      cases h
      unfold getN
      rw [get_short b 0 0 z _ m hz (by omega)]
    · cases h
def numb (lo hi : Int) (b : Bytes) : Rd Int := match getN b with
  | .ok x n => if x < lo ∨ hi < x then .err 31 else .ok x n
  | .err e => .err e
theorem Form.numb {lo hi : Int} (h1 : -9223372036854775808 ≤ lo) (h2 : hi < 9223372036854775808) : Form (numb lo hi) putN (fun n => lo ≤ n ∧ n ≤ hi) where
  gp n y h := by
    unfold F.numb
    rw [Form.num.gp n y ⟨by omega, by omega⟩]
    simp only
    rw [if_neg (by omega)]
  pg b n m h := by
    unfold F.numb at h
    split at h
    · rename_i x k hx
      split at h
      · cases h
      · cases h
        obtain ⟨e1, e2, e3⟩ := Form.num.pg _ _ _ hx
        exact ⟨by omega, e2, e3⟩
    · cases h
  sh b n k m h hm := by
    unfold F.numb at h
    split at h
    · rename_i x k' hx
      split at h
      · cases h
      · cases h
        unfold F.numb
        rw [Form.num.sh _ _ _ _ hx hm]
    · cases h
def takeB (n : Nat) (b : Bytes) : Rd Bytes := if b.length < n then .err 30 else .ok (b.take n) n
theorem Form.takeB (n : Nat) : Form (takeB n) id (fun s => s.length = n) where
  gp s y h := by
    unfold F.takeB
    subst h
    rw [if_neg (by simp), id, List.take_left]
  pg b s m h := by
    unfold F.takeB at h
    split at h
    · cases h
    · cases h
      have : (b.take n).length = n := by rw [List.length_take]; omega
      exact ⟨this, this.symm, rfl⟩
  sh b s k m h hm := by
    unfold F.takeB at h
    split at h
    · cases h
    · cases h
      unfold F.takeB
      rw [if_pos (by rw [List.length_take]; omega)]
def oneR (lo hi : Nat) (b : Bytes) : Rd UInt8 := match b with
  | [] => .err 30
  | c :: _ => if c.toNat < lo ∨ hi < c.toNat then .err 31 else .ok c 1
theorem Form.one (lo hi : Nat) : Form (oneR lo hi) (fun c => [c]) (fun c => lo ≤ c.toNat ∧ c.toNat ≤ hi) where
  gp c y h := by
    show (if c.toNat < lo ∨ hi < c.toNat then _ else _) = _
    rw [if_neg (by omega)]; rfl
  pg b c n h := by
    unfold oneR at h
    split at h
    · cases h
    · split at h
      · cases h
      · cases h
        exact ⟨by omega, rfl, rfl⟩
  sh b c n m h hm := by
    unfold oneR at h
    split at h
    · cases h
    · split at h
      · cases h
      · cases h
        have : m = 0 := by omega
        subst this; rfl
def textR (lo hi : Int) : Bytes → Rd Bytes := bindR (numb lo hi) fun n => takeB n.toNat
def putS (s : Bytes) : Bytes := putN s.length ++ s
theorem Form.text {lo hi : Int} (h1 : 0 ≤ lo) (h2 : hi < 9223372036854775808) : Form (textR lo hi) putS (fun s => lo ≤ s.length ∧ s.length ≤ hi) := by
  have k := Form.bind (fun s : Bytes => (s.length : Int)) (Form.numb (lo := lo) (hi := hi) (by omega) h2) (g := fun n => F.takeB n.toNat) (q := fun _ => id) (Q := fun n s => s.length = n.toNat) (fun n _ => Form.takeB n.toNat) (fun n s h e => by omega)
  refine k.congr (fun s => ?_) (fun s _ => rfl)
  simp only [Int.toNat_natCast, and_true]
/-! ### Names, values -/
def isLetter (c : UInt8) : Bool := (decide (97 ≤ c.toNat) && decide (c.toNat ≤ 122)) || (decide (65 ≤ c.toNat) && decide (c.toNat ≤ 90)) || decide (c.toNat = 95)
def isDigit (c : UInt8) : Bool := decide (48 ≤ c.toNat) && decide (c.toNat ≤ 57)
def isPart (c : UInt8) : Bool := isLetter c || isDigit c
def words : List Bytes := [[80, 65, 84, 84, 69, 82, 78], [83, 69, 81], [80, 65, 82, 84, 73, 84, 73, 79, 78], [66, 89], [87, 72, 69, 82, 69], [87, 73, 84, 72, 73, 78], [82, 69, 84, 85, 82, 78], [65, 78, 68], [79, 82], [78, 79, 84], [84, 82, 85, 69], [70, 65, 76, 83, 69], [84, 89, 80, 69], [73, 78, 84], [83, 84, 82], [66, 79, 79, 76]]
def nameOk (s : Bytes) : Bool := match s with
  | [] => false
  | c :: r => decide (s.length ≤ 32) && isLetter c && s.all isPart && !words.contains s
theorem nameOk_len {s : Bytes} (h : nameOk s = true) : 1 ≤ s.length ∧ s.length ≤ 32 := by
  cases s with
  | nil => cases h
  | cons c r =>
    simp only [nameOk, Bool.and_eq_true, decide_eq_true_eq] at h
    exact ⟨by simp, h.1.1.1⟩
structure Val where
  k : Int
  n : Int
  s : Bytes
  b : Bool
deriving DecidableEq
abbrev noVal : Val := ⟨0, 0, [], false⟩
structure Ev where
  t : Bytes
  tm : Int
  vs : List Val
deriving DecidableEq
abbrev noEv : Ev := ⟨[], 0, []⟩
def validV (v : Val) : Bool :=
  if v.k = 1 then decide (v.s = []) && !v.b
  else if v.k = 2 then decide (v.n = 0) && !v.b && decide (v.s.length ≤ 256)
  else if v.k = 3 then decide (v.n = 0) && decide (v.s = [])
  else false
def rngV (v : Val) : Prop := -9223372036854775808 ≤ v.n ∧ v.n < 9223372036854775808
def okV (v : Val) : Prop := validV v = true ∧ rngV v
def encV (v : Val) : Bytes := UInt8.ofNat v.k.toNat :: (if v.k = 1 then putN v.n else if v.k = 2 then putS v.s else [if v.b then 1 else 0])
def valR : Bytes → Rd Val := bindR (oneR 1 3) fun c =>
  if c.toNat = 1 then bindR (numb (-9223372036854775808) 9223372036854775807) fun n => retR ⟨1, n, [], false⟩
  else if c.toNat = 2 then bindR (textR 0 256) fun s => retR ⟨2, 0, s, false⟩
  else bindR (oneR 0 1) fun x => retR ⟨3, 0, [], decide (x.toNat = 1)⟩
theorem u8_eq {c : UInt8} {n : Nat} (h : c.toNat = n) : c = UInt8.ofNat n := by subst h; rw [UInt8.ofNat_toNat]
theorem Form.val : Form valR encV okV := by
  have k := Form.bind (fun v : Val => UInt8.ofNat v.k.toNat) (Form.one 1 3) (g := fun c =>
      if c.toNat = 1 then bindR (F.numb (-9223372036854775808) 9223372036854775807) fun n => retR (⟨1, n, [], false⟩ : Val)
      else if c.toNat = 2 then bindR (textR 0 256) fun s => retR ⟨2, 0, s, false⟩
      else bindR (oneR 0 1) fun x => retR ⟨3, 0, [], decide (x.toNat = 1)⟩)
    (q := fun c v => if c.toNat = 1 then putN v.n else if c.toNat = 2 then putS v.s else [if v.b then 1 else 0])
    (Q := fun c v => okV v ∧ v.k = c.toNat) (fun c hc => ?_) (fun c v hc hv => ?_)
  · refine k.congr (fun v => ?_) (fun v h => ?_)
    · constructor
      · intro h; exact h.2.1
      · intro h
        have hk : v.k = 1 ∨ v.k = 2 ∨ v.k = 3 := by
          have h := h.1
          unfold validV at h
          split at h
          · exact .inl ‹_›
          split at h
          · exact .inr (.inl ‹_›)
          split at h
          · exact .inr (.inr ‹_›)
          · cases h
        rcases hk with e | e | e <;> rw [e] <;> exact ⟨⟨by decide, by decide⟩, h, by decide⟩
    · obtain ⟨h1, h2, h3⟩ := h
      simp only [encV]
      rw [List.singleton_append]
      congr 1
      generalize (UInt8.ofNat v.k.toNat).toNat = x at h3 ⊢
      have e1 : (x = 1) ↔ (v.k = 1) := by omega
      have e2 : (x = 2) ↔ (v.k = 2) := by omega
      simp only [e1, e2]
  · by_cases h1 : c.toNat = 1
    · simp only [h1, if_true]
      have k := Form.bind (fun v : Val => v.n) (Form.numb (lo := -9223372036854775808) (hi := 9223372036854775807) (by omega) (by omega)) (g := fun n => retR (⟨1, n, [], false⟩ : Val)) (fun n _ => Form.ret _) (fun n v _ h => by rw [h])
      refine k.congr (fun v => ?_) (fun v _ => by simp)
      obtain ⟨vk, vn, vs, vb⟩ := v
      constructor
      · rintro ⟨h2, h3⟩
        have h2 : -9223372036854775808 ≤ vn ∧ vn ≤ 9223372036854775807 := h2
        cases h3
        exact ⟨⟨rfl, by show _ ≤ vn; omega, by show vn < _; omega⟩, rfl⟩
      · rintro ⟨⟨h2, h3, h4⟩, h5⟩
        simp only at h3 h4 h5
        subst h5
        simp [validV] at h2
        refine ⟨⟨h3, by show vn ≤ _; omega⟩, ?_⟩
        simp [h2]
    · by_cases h2 : c.toNat = 2
      · rw [if_neg h1, if_pos h2]
        have k := Form.bind (fun v : Val => v.s) (Form.text (lo := 0) (hi := 256) (by omega) (by omega)) (g := fun s => retR (⟨2, 0, s, false⟩ : Val)) (fun n _ => Form.ret _) (fun n v _ h => by rw [h])
        refine k.congr (fun v => ?_) (fun v _ => by simp [h1, h2])
        obtain ⟨vk, vn, vs, vb⟩ := v
        rw [h2]
        constructor
        · rintro ⟨h3, h4⟩
          cases h4
          refine ⟨⟨?_, by show _ ≤ (0 : Int); omega, by show (0 : Int) < _; omega⟩, rfl⟩
          simp only at h3
          simp [validV]; omega
        · rintro ⟨⟨h3, h4, h5⟩, h6⟩
          simp only at h6
          subst h6
          simp [validV] at h3
          refine ⟨⟨by simp only; omega, by simp only; omega⟩, ?_⟩
          simp [h3]
      · rw [if_neg h1, if_neg h2]
        have h3 : c.toNat = 3 := by omega
        have k := Form.bind (fun v : Val => (if v.b then 1 else 0 : UInt8)) (Form.one 0 1) (g := fun x => retR (⟨3, 0, [], decide (x.toNat = 1)⟩ : Val)) (fun n _ => Form.ret _) (fun x v hx h => by
          rw [h]
          simp only
          by_cases h4 : x.toNat = 1
          · rw [if_pos (decide_eq_true h4)]; exact (u8_eq h4).symm
          · rw [if_neg (by simp [h4])]
            have : x.toNat = 0 := by omega
            exact (u8_eq this).symm)
        refine k.congr (fun v => ?_) (fun v _ => by simp [h1, h2])
        obtain ⟨vk, vn, vs, vb⟩ := v
        rw [h3]
        constructor
        · rintro ⟨h4, h5⟩
          simp only [Val.mk.injEq] at h5
          obtain ⟨e1, e2, e3, e4⟩ := h5
          subst e1 e2 e3
          exact ⟨⟨by simp [validV], by show _ ≤ (0 : Int); omega, by show (0 : Int) < _; omega⟩, rfl⟩
        · rintro ⟨⟨h4, h5, h6⟩, h7⟩
          simp only at h7
          subst h7
          simp [validV] at h4
          obtain ⟨rfl, rfl⟩ := h4
          cases vb <;> exact ⟨⟨by decide, by decide⟩, by decide⟩
  · show UInt8.ofNat v.k.toNat = c
    rw [hv.2, Int.toNat_natCast, UInt8.ofNat_toNat]
/-! ### Events -/
def rep (f : Bytes → Rd α) : Nat → Bytes → Rd (List α)
  | 0 => retR []
  | n + 1 => bindR f fun x => bindR (rep f n) fun xs => retR (x :: xs)
theorem Form.rep {f : Bytes → Rd α} {p : α → Bytes} {P : α → Prop} [Inhabited α] (k : Form f p P) : ∀ n, Form (rep f n) (fun xs => xs.flatMap p) (fun xs => xs.length = n ∧ ∀ x ∈ xs, P x)
  | 0 => (Form.ret ([] : List α)).congr (fun xs => by
      constructor
      · rintro rfl; exact ⟨rfl, by simp⟩
      · rintro ⟨h, _⟩; exact List.eq_nil_of_length_eq_zero h) (fun xs h => by subst h; rfl)
  | n + 1 => by
    have k2 : ∀ x, Form (bindR (F.rep f n) fun xs => retR (x :: xs)) (fun ys => ys.tail.flatMap p) (fun ys => ys.head? = some x ∧ ys.tail.length = n ∧ ∀ y ∈ ys.tail, P y) := fun x => by
      have k2 := Form.bind (fun ys : List α => ys.tail) (Form.rep k n) (g := fun xs => retR (x :: xs)) (fun xs _ => Form.ret _) (fun xs ys _ h => by rw [h]; rfl)
      refine k2.congr (fun ys => ?_) (fun ys _ => by simp)
      constructor
      · rintro ⟨h1, h2⟩
        rw [h2]
        exact ⟨rfl, h1⟩
      · rintro ⟨h1, h2⟩
        refine ⟨h2, ?_⟩
        cases ys with
        | nil => cases h1
        | cons y ys => simp at h1; subst h1; rfl
    have k3 := Form.bind (fun ys : List α => ys.headD default) k (g := fun x => bindR (F.rep f n) fun xs => retR (x :: xs)) (q := fun _ ys => ys.tail.flatMap p) (Q := fun x ys => ys.head? = some x ∧ ys.tail.length = n ∧ ∀ y ∈ ys.tail, P y) (fun x _ => k2 x) (fun x ys _ h => by
      cases ys with
      | nil => cases h.1
      | cons y ys => simpa using h.1)
    refine k3.congr (fun ys => ?_) (fun ys h => ?_)
    · cases ys with
      | nil => simp
      | cons y ys => simp; exact ⟨fun h => ⟨h.2.1, h.1, h.2.2⟩, fun h => ⟨h.2.1, h.1, h.2.2⟩⟩
    · cases ys with
      | nil => simp at h
      | cons y ys => simp
def maxTime : Int := 4611686018427387904
def faultE (e : Ev) : Int :=
  if nameOk e.t = false then 20 else if e.tm < 0 ∨ maxTime < e.tm then 23 else if 16 < e.vs.length then 2 else if e.vs.all validV = false then 12 else 0
def rngE (e : Ev) : Prop := ∀ v ∈ e.vs, rngV v
def encE (e : Ev) : Bytes := putS e.t ++ (putN e.tm ++ (putN e.vs.length ++ e.vs.flatMap encV))
def nameR : Bytes → Rd Bytes := bindR (textR 1 32) fun t => if nameOk t then retR t else failR 31
instance : Inhabited Val := ⟨noVal⟩
instance : Inhabited Ev := ⟨noEv⟩
def evR : Bytes → Rd Ev := bindR nameR fun t => bindR (numb 0 maxTime) fun tm => bindR (numb 0 16) fun n => bindR (rep valR n.toNat) fun vs => retR ⟨t, tm, vs⟩
theorem Form.name : Form nameR putS (fun t => nameOk t = true) := by
  have k := Form.bind (fun t : Bytes => t) (Form.text (lo := 1) (hi := 32) (by omega) (by omega)) (g := fun t => if nameOk t then retR t else failR 31) (q := fun _ _ => []) (Q := fun t y => nameOk t = true ∧ y = t) (fun t _ => by
    cases h : nameOk t
    · exact (Form.fail 31 (fun _ => [])).congr (fun x => by simp) (fun x h => h.elim)
    · exact (Form.ret t).congr (fun x => by simp) (fun x h => rfl)) (fun t y _ h => h.2)
  refine k.congr (fun t => ?_) (fun t _ => by simp)
  constructor
  · intro h; exact h.2.1
  · intro h
    have := nameOk_len h
    exact ⟨by omega, h, rfl⟩
theorem fault0 {e : Ev} : faultE e = 0 ↔ nameOk e.t = true ∧ 0 ≤ e.tm ∧ e.tm ≤ maxTime ∧ e.vs.length ≤ 16 ∧ ∀ v ∈ e.vs, validV v = true := by
  unfold faultE
  constructor
  · intro h
    split at h
    · cases h
    split at h
    · cases h
    split at h
    · cases h
    split at h
    · cases h
    rename_i h1 h2 h3 h4
    refine ⟨by simpa using h1, by omega, by omega, by omega, ?_⟩
    simpa using h4
  · rintro ⟨h1, h2, h3, h4, h5⟩
    rw [if_neg (by simp [h1]), if_neg (by omega), if_neg (by omega), if_neg]
    simpa using h5
def okE (e : Ev) : Prop := faultE e = 0 ∧ rngE e
theorem Form.ev : Form evR encE okE := by
  have k4 : ∀ t tm, ∀ n : Int, 0 ≤ n ∧ n ≤ 16 → Form (bindR (F.rep valR n.toNat) fun vs => retR (⟨t, tm, vs⟩ : Ev)) (fun e => e.vs.flatMap encV) (fun e => (e.vs.length = n.toNat ∧ ∀ v ∈ e.vs, okV v) ∧ e = ⟨t, tm, e.vs⟩) := fun t tm n _ =>
    (Form.bind (fun e : Ev => e.vs) (Form.rep Form.val n.toNat) (g := fun vs => retR (⟨t, tm, vs⟩ : Ev)) (fun xs _ => Form.ret _) (fun xs ys _ h => by rw [h])).congr (fun e => Iff.rfl) (fun e _ => by simp)
  have k3 := fun t tm => Form.bind (fun e : Ev => (e.vs.length : Int)) (Form.numb (lo := 0) (hi := 16) (by omega) (by omega)) (fun n hn => k4 t tm n hn) (fun n e hn h => by
    have h := h.1.1
    show (e.vs.length : Int) = n
    omega)
  have k2 := fun t => Form.bind (fun e : Ev => e.tm) (Form.numb (lo := 0) (hi := maxTime) (by omega) (by decide)) (fun tm _ => k3 t tm) (fun tm e _ h => by rw [h.2.2])
  have k1 := Form.bind (fun e : Ev => e.t) Form.name (fun t _ => k2 t) (fun t e _ h => by rw [h.2.2.2])
  refine k1.congr (fun e => ?_) (fun e _ => rfl)
  unfold okE
  rw [fault0]
  constructor
  · rintro ⟨h1, h2, h3, ⟨h4, h5⟩, h6⟩
    exact ⟨⟨h1, h2.1, h2.2, by omega, fun v hv => (h5 v hv).1⟩, fun v hv => (h5 v hv).2⟩
  · rintro ⟨⟨h1, h2, h3, h4, h5⟩, h6⟩
    exact ⟨h1, ⟨h2, h3⟩, ⟨by omega, by omega⟩, ⟨by omega, fun v hv => ⟨h5 v hv, h6 v hv⟩⟩, rfl⟩
theorem encV_len {v : Val} (h : validV v = true) : (encV v).length ≤ 267 := by
  have hn := fun n => (putZ_len 9 (zig n)).2
  unfold encV validV at *
  rw [List.length_cons]
  by_cases h1 : v.k = 1
  · rw [if_pos h1]
    have := hn v.n
    unfold putN; omega
  · rw [if_neg h1] at h ⊢
    by_cases h2 : v.k = 2
    · rw [if_pos h2] at h ⊢
      simp only [Bool.and_eq_true, decide_eq_true_eq] at h
      have := hn v.s.length
      unfold putS putN
      rw [List.length_append]; omega
    · rw [if_neg h2]; simp
theorem encVs_len : ∀ {vs : List Val}, (∀ v ∈ vs, validV v = true) → (vs.flatMap encV).length ≤ 267 * vs.length
  | [], _ => by simp
  | v :: vs, h => by
    have h1 := encV_len (h v (by simp))
    have h2 := encVs_len (vs := vs) fun w hw => h w (by simp [hw])
    rw [List.flatMap_cons, List.length_append, List.length_cons]; omega
theorem encE_len {e : Ev} (h : faultE e = 0) : (encE e).length ≤ 5000 := by
  have hn := fun n => (putZ_len 9 (zig n)).2
  obtain ⟨h1, h2, h3, h4, h5⟩ := fault0.1 h
  have := nameOk_len h1
  have := encVs_len h5
  have := hn e.t.length
  have := hn e.tm
  have := hn e.vs.length
  unfold encE putS putN
  simp only [List.length_append]
  omega
end Go.Proofs.YtofaihacmoacjaaDoor.F
