/- Package proto: requests and replies, in plain Lean. Conditions: none. -/
import Derived.Test.YtgdgebmlcgohhaaDoorQ4
namespace Go.Proofs.YtgdgebmlcgohhaaDoor.F
open Go Go.VC Go.Proofs
set_option linter.unusedSimpArgs false
set_option linter.unusedVariables false
set_option maxRecDepth 100000

/-! ### Requests -/
structure Rq where
  id : Nat
  k : Int
  name : Bytes
  text : Bytes
  names : List Bytes
  evs : List Ev
deriving DecidableEq
abbrev noRq : Rq := ⟨0, 0, [], [], [], []⟩
/-- Of which fields a kind speaks. -/
def spk (k : Int) : List Nat :=
  if k = 1 ∨ k = 9 ∨ k = 10 then [1] else if k = 2 then [0, 1] else if k = 3 ∨ k = 8 ∨ k = 11 then [0] else if k = 4 then [3] else if k = 5 then [2] else if k = 12 then [2, 3] else []
def empF (i : Nat) (q : Rq) : Bool := match i with
  | 0 => decide (q.name = [])
  | 1 => decide (q.text = [])
  | 2 => decide (q.names = [])
  | _ => decide (q.evs = [])
def putF (i : Nat) (q : Rq) : Bytes := match i with
  | 0 => putS q.name
  | 1 => putS q.text
  | 2 => putL putS q.names
  | _ => putL encF q.evs
def short (s : Bytes) : Prop := s.length < 9223372036854775808
def okF (i : Nat) (q : Rq) : Prop := match i with
  | 0 => short q.name
  | 1 => short q.text
  | 2 => q.names.length < 9223372036854775808 ∧ ∀ s ∈ q.names, short s
  | _ => q.evs.length < 9223372036854775808 ∧ ∀ e ∈ q.evs, okE e
def setF (i : Nat) (p q : Rq) : Rq := match i with
  | 0 => { q with name := p.name }
  | 1 => { q with text := p.text }
  | 2 => { q with names := p.names }
  | _ => { q with evs := p.evs }
noncomputable def getF (i : Nat) (q : Rq) : Po Rq := match i with
  | 0 => bindO texO fun s => retO { q with name := s }
  | 1 => bindO texO fun s => retO { q with text := s }
  | 2 => bindO (lisO texO) fun s => retO { q with names := s }
  | _ => bindO (lisO evO) fun s => retO { q with evs := s }
noncomputable def getsF : List Nat → Rq → Po Rq
  | [], q => retO q
  | i :: is, q => bindO (getF i q) (getsF is)
theorem encF_ok {e : Ev} (h : okE e) : encF e = encE e := by unfold encF; rw [if_pos h.1]
theorem encF_flat : ∀ {es : List Ev}, (∀ e ∈ es, okE e) → es.flatMap encF = es.flatMap encE
  | [], _ => rfl
  | e :: es, h => by
    rw [List.flatMap_cons, List.flatMap_cons, encF_ok (h e (by simp)), encF_flat fun x hx => h x (by simp [hx])]
theorem Fm.getF (i : Nat) (q : Rq) : Fm (getF i q) (putF i) (fun p => okF i p ∧ p = setF i p q) := by
  match i with
  | 0 => exact (Fm.bind (fun p : Rq => p.name) Fm.tex (g := fun s => retO { q with name := s }) (fun n _ => Fm.ret _) (fun n v _ h => by rw [h])).congr (p' := putF 0) (fun v => Iff.rfl) (fun v _ => by simp [putF])
  | 1 => exact (Fm.bind (fun p : Rq => p.text) Fm.tex (g := fun s => retO { q with text := s }) (fun n _ => Fm.ret _) (fun n v _ h => by rw [h])).congr (p' := putF 1) (fun v => Iff.rfl) (fun v _ => by simp [putF])
  | 2 => exact (Fm.bind (fun p : Rq => p.names) (Fm.lis Fm.tex fun s _ => putS_pos s) (g := fun s => retO { q with names := s }) (fun n _ => Fm.ret _) (fun n v _ h => by rw [h])).congr (p' := putF 2) (fun v => Iff.rfl) (fun v _ => by simp [putF])
  | n + 3 => exact (Fm.bind (fun p : Rq => p.evs) (Fm.lis Fm.ev fun s _ => encE_pos s) (g := fun s => retO { q with evs := s }) (fun n _ => Fm.ret _) (fun n v _ h => by rw [h])).congr (p' := putF (n + 3)) (fun v => Iff.rfl) (fun v h => by
      show putL encE v.evs ++ [] = putL encF v.evs
      unfold putL
      rw [encF_flat h.1.2, List.append_nil])
theorem spk_cases (k : Int) : spk k = [1] ∨ spk k = [0, 1] ∨ spk k = [0] ∨ spk k = [3] ∨ spk k = [2] ∨ spk k = [2, 3] ∨ spk k = [] := by
  unfold spk
  split
  · exact .inl rfl
  split
  · exact .inr (.inl rfl)
  split
  · exact .inr (.inr (.inl rfl))
  split
  · exact .inr (.inr (.inr (.inl rfl)))
  split
  · exact .inr (.inr (.inr (.inr (.inl rfl))))
  split
  · exact .inr (.inr (.inr (.inr (.inr (.inl rfl)))))
  · exact .inr (.inr (.inr (.inr (.inr (.inr rfl)))))
def fitF (is : List Nat) (q : Rq) : Prop := (∀ i ∈ is, okF i q) ∧ ∀ i, i < 4 → i ∉ is → empF i q = true
theorem emp4 {is : List Nat} {q : Rq} : (∀ i, i < 4 → i ∉ is → empF i q = true) ↔ (0 ∉ is → q.name = []) ∧ (1 ∉ is → q.text = []) ∧ (2 ∉ is → q.names = []) ∧ (3 ∉ is → q.evs = []) := by
  constructor
  · intro h
    exact ⟨fun h0 => by simpa [empF] using h 0 (by omega) h0, fun h0 => by simpa [empF] using h 1 (by omega) h0, fun h0 => by simpa [empF] using h 2 (by omega) h0, fun h0 => by simpa [empF] using h 3 (by omega) h0⟩
  · rintro ⟨h0, h1, h2, h3⟩ i hi hn
    match i, hi with
    | 0, _ => simpa [empF] using h0 hn
    | 1, _ => simpa [empF] using h1 hn
    | 2, _ => simpa [empF] using h2 hn
    | 3, _ => simpa [empF] using h3 hn
theorem Fm.getsF (k : Int) (id : Nat) : Fm (getsF (spk k) ⟨id, k, [], [], [], []⟩) (fun q => (spk k).flatMap fun i => putF i q) (fun q => q.id = id ∧ q.k = k ∧ fitF (spk k) q) := by
  have one : ∀ i, i < 4 → Fm (F.getsF [i] ⟨id, k, [], [], [], []⟩) (fun q => [i].flatMap fun i => putF i q) (fun q => q.id = id ∧ q.k = k ∧ fitF [i] q) := fun i hi => by
    show Fm (bindO (F.getF i _) retO) _ _
    rw [bindO_ret]
    refine (Fm.getF i _).congr (fun q => ?_) (fun q _ => by simp)
    obtain ⟨qi, qk, qn, qt, qs, qe⟩ := q
    unfold fitF
    rw [emp4]
    match i, hi with
    | 0, _ => simp [setF, Rq.mk.injEq]; constructor <;> (rintro ⟨a, b, c, d, e, f⟩; exact ⟨by assumption, by assumption, by assumption, by assumption, by assumption, by assumption⟩)
    | 1, _ => simp [setF, Rq.mk.injEq]; constructor <;> (rintro ⟨a, b, c, d, e, f⟩; exact ⟨by assumption, by assumption, by assumption, by assumption, by assumption, by assumption⟩)
    | 2, _ => simp [setF, Rq.mk.injEq]; constructor <;> (rintro ⟨a, b, c, d, e, f⟩; exact ⟨by assumption, by assumption, by assumption, by assumption, by assumption, by assumption⟩)
    | 3, _ => simp [setF, Rq.mk.injEq]; constructor <;> (rintro ⟨a, b, c, d, e, f⟩; exact ⟨by assumption, by assumption, by assumption, by assumption, by assumption, by assumption⟩)
  have two : ∀ i, i = 0 ∨ i = 2 → Fm (F.getsF [i, i + 1] ⟨id, k, [], [], [], []⟩) (fun q => [i, i + 1].flatMap fun i => putF i q) (fun q => q.id = id ∧ q.k = k ∧ fitF [i, i + 1] q) := fun i hi => by
    show Fm (bindO (F.getF i _) fun q => bindO (F.getF (i + 1) q) retO) _ _
    refine (Fm.bind (fun q : Rq => setF i q ⟨id, k, [], [], [], []⟩) (Fm.getF i _) (g := fun q => bindO (F.getF (i + 1) q) retO) (q := fun _ => putF (i + 1)) (Q := fun q p => okF (i + 1) p ∧ p = setF (i + 1) p q) (fun q _ => by rw [bindO_ret]; exact Fm.getF (i + 1) q) (fun x y h1 h2 => ?_)).congr (fun q => ?_) (fun q _ => ?_)
    · rcases hi with rfl | rfl
      · have e := h2.2; rw [e]; exact h1.2.symm
      · have e := h2.2; rw [e]; exact h1.2.symm
    · obtain ⟨qi, qk, qn, qt, qs, qe⟩ := q
      unfold fitF
      rw [emp4]
      rcases hi with rfl | rfl
      · simp [setF, okF, Rq.mk.injEq]
        constructor
        · rintro ⟨a, b, c, d, e, f⟩; exact ⟨c, d, ⟨a, b⟩, e, f⟩
        · rintro ⟨c, d, ⟨a, b⟩, e, f⟩; exact ⟨a, b, c, d, e, f⟩
      · simp [setF, okF, Rq.mk.injEq]
        constructor
        · rintro ⟨a, b, c, d, e, f⟩; exact ⟨c, d, ⟨a, b⟩, e, f⟩
        · rintro ⟨c, d, ⟨a, b⟩, e, f⟩; exact ⟨a, b, c, d, e, f⟩
    · rcases hi with rfl | rfl <;> simp [putF, setF]
  rcases spk_cases k with e | e | e | e | e | e | e <;> rw [e]
  · exact one 1 (by omega)
  · exact two 0 (.inl rfl)
  · exact one 0 (by omega)
  · exact one 3 (by omega)
  · exact one 2 (by omega)
  · exact two 2 (.inr rfl)
  · refine (Fm.ret _).congr (fun q => ?_) (fun q _ => rfl)
    obtain ⟨qi, qk, qn, qt, qs, qe⟩ := q
    unfold fitF
    rw [emp4]
    simp [Rq.mk.injEq]
def known (k : Int) : Prop := 1 ≤ k ∧ k ≤ 12
instance (k : Int) : Decidable (known k) := inferInstanceAs (Decidable (_ ∧ _))
noncomputable def askedO : Po Rq := bindO oneO fun c => bindO idO fun n => if known c.toNat then getsF (spk c.toNat) ⟨n, c.toNat, [], [], [], []⟩ else noO
def putQ (q : Rq) : Bytes := [UInt8.ofNat q.k.toNat] ++ (be4 q.id ++ (spk q.k).flatMap fun i => putF i q)
def okQ (q : Rq) : Prop := known q.k ∧ q.id < 4294967296 ∧ fitF (spk q.k) q
theorem known_byte {k : Int} (h : known k) : ((UInt8.ofNat k.toNat).toNat : Int) = k := by
  have h1 := h.1
  have h2 := h.2
  rw [UInt8.toNat_ofNat']; omega
theorem Fm.asked : Fm askedO putQ okQ := fun b q r => by
  unfold askedO
  constructor
  · intro h
    obtain ⟨c, r1, h1, hA⟩ := bindO_some.1 h
    clear h
    obtain ⟨_, rfl⟩ := (Fm.one _ _ _).1 h1
    obtain ⟨n, r2, h2, h⟩ := bindO_some.1 hA
    clear hA
    obtain ⟨hn, rfl⟩ := (Fm.id _ _ _).1 h2
    split at h
    · rename_i hk
      obtain ⟨⟨a1, a2, a3⟩, rfl⟩ := (Fm.getsF _ _ _ _ _).1 h
      rw [← a2] at hk a3 ⊢
      refine ⟨⟨hk, by rw [a1]; exact hn, a3⟩, ?_⟩
      unfold putQ
      have e : UInt8.ofNat q.k.toNat = c := by rw [a2, Int.toNat_natCast, UInt8.ofNat_toNat]
      rw [e, a1]
      simp only [List.append_assoc]
    · cases h
  · rintro ⟨⟨h1, h2, h3⟩, rfl⟩
    have hb := known_byte h1
    refine bindO_some.2 ⟨UInt8.ofNat q.k.toNat, _, (Fm.one _ _ _).2 ⟨trivial, by unfold putQ; simp only [List.append_assoc]; rfl⟩, bindO_some.2 ⟨q.id, _, (Fm.id _ _ _).2 ⟨h2, rfl⟩, ?_⟩⟩
    rw [hb, if_pos h1]
    exact (Fm.getsF _ _ _ _ _).2 ⟨⟨rfl, rfl, h3⟩, rfl⟩
/-- What Asked answers. -/
noncomputable def askedR (b : Bytes) : Rq × Int := if 65528 < b.length then (noRq, 2) else match askedO b with
  | some (q, []) => (q, 0)
  | _ => (noRq, 301)
def faultEs : List Ev → Int
  | [] => 0
  | e :: r => if faultE e = 0 then faultEs r else faultE e
/-- The first fault of what is written. -/
def faultF (is : List Nat) (q : Rq) : Int := if 3 ∈ is then faultEs q.evs else 0
/-- Is a field filled of which its kind does not speak? -/
def stray (q : Rq) : Bool := (List.range 4).any fun i => !(spk q.k).contains i && !(empF i q)
theorem stray_iff {q : Rq} : stray q = true ↔ ∃ i, i < 4 ∧ i ∉ spk q.k ∧ empF i q = false := by
  unfold stray
  simp
/-- What Ask answers. -/
def askR (q : Rq) : Bytes × Int :=
  if ¬ known q.k then ([], 301) else if stray q = true then ([], 301)
  else if faultF (spk q.k) q ≠ 0 then ([], faultF (spk q.k) q) else if 65528 < (putQ q).length then ([], 2) else (putQ q, 0)
theorem faultEs0 : ∀ {es : List Ev}, faultEs es = 0 ↔ ∀ e ∈ es, faultE e = 0
  | [] => by simp [faultEs]
  | e :: es => by
    have ih := faultEs0 (es := es)
    unfold faultEs
    by_cases h : faultE e = 0
    · rw [if_pos h, ih]; simp [h]
    · rw [if_neg h]; simp [h]
theorem fault_take {es : List Ev} : ∀ {j : Nat} {x : Ev}, es[j]? = some x → faultEs (es.take j) = 0 → faultEs (es.take (j + 1)) = faultE x := by
  induction es with
  | nil => intro j x h; simp at h
  | cons e es ih =>
    intro j x h h0
    cases j with
    | zero =>
      simp at h; subst h
      simp only [Nat.zero_add, List.take_succ_cons, List.take_zero, faultEs]
      split
      · rename_i he; exact he.symm
      · rfl
    | succ j =>
      simp only [List.take_succ_cons, faultEs] at h0 ⊢
      split at h0
      · rename_i he
        rw [if_pos he]
        exact ih (by simpa using h) h0
      · rename_i he; exact absurd h0 he
theorem fault_stay {es : List Ev} : ∀ {j : Nat}, faultEs (es.take j) ≠ 0 → faultEs (es.take (j + 1)) = faultEs (es.take j) := by
  induction es with
  | nil => intro j h; simp [faultEs] at h
  | cons e es ih =>
    intro j h
    cases j with
    | zero => simp [faultEs] at h
    | succ j =>
      simp only [List.take_succ_cons, faultEs] at h ⊢
      split
      · rename_i he
        rw [if_pos he] at h
        exact ih h
      · rfl
/-- What a request must be to be written at all: its numbers and texts are such as memory holds. -/
def rngQ (q : Rq) : Prop := q.id < 4294967296 ∧ short q.name ∧ short q.text ∧ (q.names.length < 9223372036854775808 ∧ ∀ s ∈ q.names, short s) ∧ q.evs.length < 9223372036854775808 ∧ ∀ e ∈ q.evs, rngE e
theorem ask_ok {q : Rq} (hr : rngQ q) : (askR q).2 = 0 ↔ okQ q ∧ (putQ q).length ≤ 65528 := by
  obtain ⟨r1, r2, r3, r4, r5, r6⟩ := hr
  unfold askR
  constructor
  · intro h
    split at h
    · cases h
    rename_i h1
    split at h
    · cases h
    rename_i h2
    split at h
    · rename_i h3; exact absurd h h3
    rename_i h3
    split at h
    · cases h
    rename_i h4
    refine ⟨⟨by simpa using h1, r1, ?_, ?_⟩, by omega⟩
    · intro i hi
      match i with
      | 0 => exact r2
      | 1 => exact r3
      | 2 => exact r4
      | n + 3 =>
        have h3 : faultF (spk q.k) q = 0 := by simpa using h3
        unfold faultF at h3
        have h5 : n + 3 = 3 := by
          rcases spk_cases q.k with e | e | e | e | e | e | e <;> rw [e] at hi <;> simp at hi <;> omega
        rw [h5] at hi
        rw [if_pos hi] at h3
        exact ⟨r5, fun e he => ⟨faultEs0.1 h3 e he, r6 e he⟩⟩
    · intro i hi hn
      cases he : empF i q
      · exact absurd (stray_iff.2 ⟨i, hi, hn, he⟩) h2
      · rfl
  · rintro ⟨⟨h1, h2, h3, h4⟩, h5⟩
    rw [if_neg (by simpa using h1), if_neg, if_neg, if_neg (by omega)]
    · unfold faultF
      split
      · rename_i h6
        have := (h3 3 h6).2
        simp only [ne_eq, Decidable.not_not]
        exact faultEs0.2 fun e he => (this e he).1
      · simp
    · intro hs
      obtain ⟨i, hi, hn, he⟩ := stray_iff.1 hs
      rw [h4 i hi hn] at he; cases he
theorem ask_val {q : Rq} (h : (askR q).2 = 0) : (askR q).1 = putQ q := by
  unfold askR at h ⊢
  split at h
  · cases h
  rename_i h1
  rw [if_neg h1]
  split at h
  · cases h
  rename_i h2
  rw [if_neg h2]
  split at h
  · rename_i h3; exact absurd h h3
  rename_i h3
  rw [if_neg h3]
  split at h
  · cases h
  rename_i h4
  rw [if_neg h4]
theorem asked_ok {b : Bytes} {q : Rq} : askedR b = (q, 0) ↔ okQ q ∧ b = putQ q ∧ b.length ≤ 65528 := by
  unfold askedR
  constructor
  · intro h
    split at h
    · cases h
    rename_i h1
    split at h
    · rename_i q' hq
      cases h
      obtain ⟨a1, a2⟩ := (Fm.asked _ _ _).1 hq
      exact ⟨a1, by simpa using a2, by omega⟩
    · cases h
  · rintro ⟨h1, h2, h3⟩
    rw [if_neg (by omega)]
    have := (Fm.asked b q []).2 ⟨h1, by simpa using h2⟩
    rw [this]
theorem asked_err (b : Bytes) : (askedR b).2 = 0 ∨ askedR b = (noRq, 2) ∨ askedR b = (noRq, 301) := by
  unfold askedR
  split
  · exact .inr (.inl rfl)
  split
  · exact .inl rfl
  · exact .inr (.inr rfl)
/-- What is written is read back. -/
theorem ask_asked {q : Rq} (hr : rngQ q) (h : (askR q).2 = 0) : askedR (askR q).1 = (q, 0) ∧ (askR q).1.length ≤ 65528 := by
  obtain ⟨h1, h2⟩ := (ask_ok hr).1 h
  rw [ask_val h]
  exact ⟨asked_ok.2 ⟨h1, rfl, h2⟩, h2⟩
theorem okQ_rng {q : Rq} (h : okQ q) : rngQ q := by
  obtain ⟨h1, h2, h3, h4⟩ := h
  rw [emp4] at h4
  obtain ⟨e0, e1, e2, e3⟩ := h4
  have s : short [] := by unfold short; simp
  refine ⟨h2, ?_, ?_, ?_, ?_⟩
  · by_cases hi : 0 ∈ spk q.k
    · exact h3 0 hi
    · rw [e0 hi]; exact s
  · by_cases hi : 1 ∈ spk q.k
    · exact h3 1 hi
    · rw [e1 hi]; exact s
  · by_cases hi : 2 ∈ spk q.k
    · exact h3 2 hi
    · rw [e2 hi]; simp
  · by_cases hi : 3 ∈ spk q.k
    · exact ⟨(h3 3 hi).1, fun e he => ((h3 3 hi).2 e he).2⟩
    · rw [e3 hi]; simp
/-- What is read is written so. -/
theorem asked_ask {b : Bytes} (h : (askedR b).2 = 0) : askR (askedR b).1 = (b, 0) := by
  have h0 : askedR b = ((askedR b).1, 0) := by rw [← h]
  obtain ⟨h1, h2, h3⟩ := asked_ok.1 h0
  have h4 := (ask_ok (okQ_rng h1)).2 ⟨h1, by rw [← h2]; exact h3⟩
  have h5 := ask_val h4
  rw [← h2] at h5
  exact Prod.ext h5 h4
/-! ### Replies -/
structure Hi where
  q : Bytes
  row : List Val
deriving DecidableEq
structure Rp where
  id : Nat
  note : Bool
  err : Int
  at_ : Int
  errs : List Int
  hits : List Hi
  names : List Bytes
  rows : List (List Val)
  since : Int
  open_ : Int
  nodes : Int
  over : Bool
deriving DecidableEq
abbrev noRp : Rp := ⟨0, false, 0, 0, [], [], [], [], 0, 0, 0, false⟩
noncomputable def hitO : Po Hi := bindO texO fun q => bindO (lisO valO) fun r => retO ⟨q, r⟩
def putHi (x : Hi) : Bytes := putS x.q ++ putL encV x.row
def okRow (r : List Val) : Prop := r.length < 9223372036854775808 ∧ ∀ v ∈ r, okV v
def okHi (x : Hi) : Prop := short x.q ∧ okRow x.row
theorem Fm.row : Fm (lisO valO) (putL encV) okRow := Fm.lis Fm.val fun v _ => encV_pos v
theorem Fm.hit : Fm hitO putHi okHi := by
  have k := Fm.bind (fun x : Hi => x.q) Fm.tex (g := fun q => bindO (lisO valO) fun r => retO (⟨q, r⟩ : Hi)) (q := fun _ x => putL encV x.row) (Q := fun q x => okRow x.row ∧ x = ⟨q, x.row⟩) (fun q _ => ?_) (fun q x _ h => by rw [h.2])
  · refine k.congr (fun x => ?_) (fun x _ => rfl)
    unfold okHi
    constructor
    · rintro ⟨h1, h2, _⟩; exact ⟨h1, h2⟩
    · rintro ⟨h1, h2⟩; exact ⟨h1, h2, rfl⟩
  · exact (Fm.bind (fun x : Hi => x.row) Fm.row (g := fun r => retO (⟨q, r⟩ : Hi)) (fun r _ => Fm.ret _) (fun r x _ h => by rw [h])).congr (fun x => Iff.rfl) (fun x _ => by simp)
noncomputable def toldO : Po Rp := bindO truO fun note => bindO idO fun id => bindO numO fun err => bindO numO fun at_ => bindO (lisO numO) fun errs => bindO (lisO hitO) fun hits => bindO (lisO texO) fun names => bindO (lisO (lisO valO)) fun rows =>
  bindO numO fun since => bindO numO fun open_ => bindO numO fun nodes => bindO truO fun over => retO ⟨id, note, err, at_, errs, hits, names, rows, since, open_, nodes, over⟩
def putP (p : Rp) : Bytes := truB p.note ++ (be4 p.id ++ (putN p.err ++ (putN p.at_ ++ (putL putN p.errs ++ (putL putHi p.hits ++ (putL putS p.names ++ (putL (putL encV) p.rows ++ (putN p.since ++ (putN p.open_ ++ (putN p.nodes ++ truB p.over))))))))))
structure okP (p : Rp) : Prop where
  id : p.id < 4294967296
  err : rng64 p.err
  at_ : rng64 p.at_
  errs : p.errs.length < 9223372036854775808 ∧ ∀ n ∈ p.errs, rng64 n
  hits : p.hits.length < 9223372036854775808 ∧ ∀ x ∈ p.hits, okHi x
  names : p.names.length < 9223372036854775808 ∧ ∀ x ∈ p.names, short x
  rows : p.rows.length < 9223372036854775808 ∧ ∀ x ∈ p.rows, okRow x
  since : rng64 p.since
  open_ : rng64 p.open_
  nodes : rng64 p.nodes
theorem Fm.errs : Fm (lisO numO) (putL putN) (fun xs => xs.length < 9223372036854775808 ∧ ∀ x ∈ xs, rng64 x) := Fm.lis Fm.num fun n _ => putN_pos n
theorem Fm.hits : Fm (lisO hitO) (putL putHi) (fun xs => xs.length < 9223372036854775808 ∧ ∀ x ∈ xs, okHi x) := Fm.lis Fm.hit fun x _ => by
  have := putS_pos x.q
  unfold putHi; rw [List.length_append]; omega
theorem Fm.names : Fm (lisO texO) (putL putS) (fun xs => xs.length < 9223372036854775808 ∧ ∀ x ∈ xs, short x) := Fm.lis Fm.tex fun s _ => putS_pos s
theorem Fm.rows : Fm (lisO (lisO valO)) (putL (putL encV)) (fun xs => xs.length < 9223372036854775808 ∧ ∀ x ∈ xs, okRow x) := Fm.lis Fm.row fun s _ => putL_pos _ s
theorem Fm.told : Fm toldO putP okP := fun b p r => by
  unfold toldO
  constructor
  · intro h
    obtain ⟨x1, r1, h1, g1⟩ := bindO_some.1 h
    clear h
    obtain ⟨_, rfl⟩ := (Fm.tru _ _ _).1 h1
    obtain ⟨x2, r2, h2, g2⟩ := bindO_some.1 g1
    clear g1
    obtain ⟨a2, rfl⟩ := (Fm.id _ _ _).1 h2
    obtain ⟨x3, r3, h3, g3⟩ := bindO_some.1 g2
    clear g2
    obtain ⟨a3, rfl⟩ := (Fm.num _ _ _).1 h3
    obtain ⟨x4, r4, h4, g4⟩ := bindO_some.1 g3
    clear g3
    obtain ⟨a4, rfl⟩ := (Fm.num _ _ _).1 h4
    obtain ⟨x5, r5, h5, g5⟩ := bindO_some.1 g4
    clear g4
    obtain ⟨a5, rfl⟩ := (Fm.errs _ _ _).1 h5
    obtain ⟨x6, r6, h6, g6⟩ := bindO_some.1 g5
    clear g5
    obtain ⟨a6, rfl⟩ := (Fm.hits _ _ _).1 h6
    obtain ⟨x7, r7, h7, g7⟩ := bindO_some.1 g6
    clear g6
    obtain ⟨a7, rfl⟩ := (Fm.names _ _ _).1 h7
    obtain ⟨x8, r8, h8, g8⟩ := bindO_some.1 g7
    clear g7
    obtain ⟨a8, rfl⟩ := (Fm.rows _ _ _).1 h8
    obtain ⟨x9, r9, h9, g9⟩ := bindO_some.1 g8
    clear g8
    obtain ⟨a9, rfl⟩ := (Fm.num _ _ _).1 h9
    obtain ⟨x10, r10, h10, g10⟩ := bindO_some.1 g9
    clear g9
    obtain ⟨a10, rfl⟩ := (Fm.num _ _ _).1 h10
    obtain ⟨x11, r11, h11, g11⟩ := bindO_some.1 g10
    clear g10
    obtain ⟨a11, rfl⟩ := (Fm.num _ _ _).1 h11
    obtain ⟨x12, r12, h12, g12⟩ := bindO_some.1 g11
    clear g11
    obtain ⟨_, rfl⟩ := (Fm.tru _ _ _).1 h12
    cases g12
    exact ⟨⟨a2, a3, a4, a5, a6, a7, a8, a9, a10, a11⟩, by simp only [putP, List.append_assoc]⟩
  · rintro ⟨k, rfl⟩
    simp only [putP, List.append_assoc]
    exact bindO_some.2 ⟨_, _, (Fm.tru _ _ _).2 ⟨trivial, rfl⟩, bindO_some.2 ⟨_, _, (Fm.id _ _ _).2 ⟨k.id, rfl⟩, bindO_some.2 ⟨_, _, (Fm.num _ _ _).2 ⟨k.err, rfl⟩, bindO_some.2 ⟨_, _, (Fm.num _ _ _).2 ⟨k.at_, rfl⟩,
      bindO_some.2 ⟨_, _, (Fm.errs _ _ _).2 ⟨k.errs, rfl⟩, bindO_some.2 ⟨_, _, (Fm.hits _ _ _).2 ⟨k.hits, rfl⟩, bindO_some.2 ⟨_, _, (Fm.names _ _ _).2 ⟨k.names, rfl⟩, bindO_some.2 ⟨_, _, (Fm.rows _ _ _).2 ⟨k.rows, rfl⟩,
      bindO_some.2 ⟨_, _, (Fm.num _ _ _).2 ⟨k.since, rfl⟩, bindO_some.2 ⟨_, _, (Fm.num _ _ _).2 ⟨k.open_, rfl⟩, bindO_some.2 ⟨_, _, (Fm.num _ _ _).2 ⟨k.nodes, rfl⟩, bindO_some.2 ⟨_, _, (Fm.tru _ _ _).2 ⟨trivial, rfl⟩, rfl⟩⟩⟩⟩⟩⟩⟩⟩⟩⟩⟩⟩
/-- What Told answers. -/
noncomputable def toldR (b : Bytes) : Rp × Int := if 65528 < b.length then (noRp, 2) else match toldO b with
  | some (p, []) => (p, 0)
  | _ => (noRp, 301)
/-- A value's bytes, whatever it is. -/
def encW (v : Val) : Bytes := UInt8.ofNat (v.k % 256).toNat :: (if v.k = 1 then putN v.n else if v.k = 2 then putS v.s else truB v.b)
theorem encW_ok {v : Val} (h : validV v = true) : encW v = encV v := by
  rcases valid_mk h with ⟨e, _⟩ | ⟨e, _, _⟩ | ⟨e, _⟩
  · unfold encW encV; rw [e]; rfl
  · unfold encW encV; rw [e]; rfl
  · unfold encW encV; rw [e]; rfl
def putHW (x : Hi) : Bytes := putS x.q ++ putL encW x.row
def putW (p : Rp) : Bytes := truB p.note ++ (be4 p.id ++ (putN p.err ++ (putN p.at_ ++ (putL putN p.errs ++ (putL putHW p.hits ++ (putL putS p.names ++ (putL (putL encW) p.rows ++ (putN p.since ++ (putN p.open_ ++ (putN p.nodes ++ truB p.over))))))))))
def soundP (p : Rp) : Bool := (p.hits.all fun x => x.row.all validV) && p.rows.all fun r => r.all validV
/-- What Tell answers. -/
def tellR (p : Rp) : Bytes × Int := if soundP p = false then ([], 12) else if 65528 < (putW p).length then ([], 2) else (putW p, 0)
theorem flat_congr {α β : Type} {f g : α → List β} : ∀ {xs : List α}, (∀ x ∈ xs, f x = g x) → xs.flatMap f = xs.flatMap g
  | [], _ => rfl
  | x :: xs, h => by rw [List.flatMap_cons, List.flatMap_cons, h x (by simp), flat_congr fun y hy => h y (by simp [hy])]
theorem rowW {r : List Val} (h : r.all validV = true) : putL encW r = putL encV r := by
  unfold putL
  rw [flat_congr fun v hv => encW_ok (List.all_eq_true.1 h v hv)]
theorem putW_ok {p : Rp} (h : soundP p = true) : putW p = putP p := by
  unfold soundP at h
  simp only [Bool.and_eq_true] at h
  have e1 : putL putHW p.hits = putL putHi p.hits := by
    unfold putL
    rw [flat_congr fun x hx => show putHW x = putHi x by
      unfold putHW putHi
      rw [rowW (List.all_eq_true.1 h.1 x hx)]]
  have e2 : putL (putL encW) p.rows = putL (putL encV) p.rows := by
    show putN _ ++ _ = putN _ ++ _
    rw [flat_congr fun x hx => rowW (List.all_eq_true.1 h.2 x hx)]
  unfold putW putP
  rw [e1, e2]
structure rngP (p : Rp) : Prop where
  id : p.id < 4294967296
  err : rng64 p.err
  at_ : rng64 p.at_
  errs : p.errs.length < 9223372036854775808 ∧ ∀ n ∈ p.errs, rng64 n
  hits : p.hits.length < 9223372036854775808 ∧ ∀ x ∈ p.hits, short x.q ∧ x.row.length < 9223372036854775808 ∧ ∀ v ∈ x.row, rngV v
  names : p.names.length < 9223372036854775808 ∧ ∀ x ∈ p.names, short x
  rows : p.rows.length < 9223372036854775808 ∧ ∀ x ∈ p.rows, x.length < 9223372036854775808 ∧ ∀ v ∈ x, rngV v
  since : rng64 p.since
  open_ : rng64 p.open_
  nodes : rng64 p.nodes
theorem okP_iff {p : Rp} : okP p ↔ rngP p ∧ soundP p = true := by
  unfold soundP
  rw [Bool.and_eq_true, List.all_eq_true, List.all_eq_true]
  constructor
  · intro k
    refine ⟨⟨k.id, k.err, k.at_, k.errs, ⟨k.hits.1, fun x hx => ⟨(k.hits.2 x hx).1, (k.hits.2 x hx).2.1, fun v hv => ((k.hits.2 x hx).2.2 v hv).2⟩⟩, k.names, ⟨k.rows.1, fun x hx => ⟨(k.rows.2 x hx).1, fun v hv => ((k.rows.2 x hx).2 v hv).2⟩⟩, k.since, k.open_, k.nodes⟩,
      fun x hx => List.all_eq_true.2 fun v hv => ((k.hits.2 x hx).2.2 v hv).1, fun x hx => List.all_eq_true.2 fun v hv => ((k.rows.2 x hx).2 v hv).1⟩
  · rintro ⟨k, h1, h2⟩
    exact ⟨k.id, k.err, k.at_, k.errs, ⟨k.hits.1, fun x hx => ⟨(k.hits.2 x hx).1, (k.hits.2 x hx).2.1, fun v hv => ⟨List.all_eq_true.1 (h1 x hx) v hv, (k.hits.2 x hx).2.2 v hv⟩⟩⟩, k.names, ⟨k.rows.1, fun x hx => ⟨(k.rows.2 x hx).1, fun v hv => ⟨List.all_eq_true.1 (h2 x hx) v hv, (k.rows.2 x hx).2 v hv⟩⟩⟩, k.since, k.open_, k.nodes⟩
theorem told_ok {b : Bytes} {p : Rp} : toldR b = (p, 0) ↔ okP p ∧ b = putP p ∧ b.length ≤ 65528 := by
  unfold toldR
  constructor
  · intro h
    split at h
    · cases h
    rename_i h1
    split at h
    · rename_i q' hq
      cases h
      obtain ⟨a1, a2⟩ := (Fm.told _ _ _).1 hq
      exact ⟨a1, by simpa using a2, by omega⟩
    · cases h
  · rintro ⟨h1, h2, h3⟩
    rw [if_neg (by omega)]
    have := (Fm.told b p []).2 ⟨h1, by simpa using h2⟩
    rw [this]
theorem told_err (b : Bytes) : (toldR b).2 = 0 ∨ toldR b = (noRp, 2) ∨ toldR b = (noRp, 301) := by
  unfold toldR
  split
  · exact .inr (.inl rfl)
  split
  · exact .inl rfl
  · exact .inr (.inr rfl)
theorem tell_ok {p : Rp} (hr : rngP p) (h : (tellR p).2 = 0) : okP p ∧ (putP p).length ≤ 65528 ∧ (tellR p).1 = putP p := by
  unfold tellR at h ⊢
  split at h
  · cases h
  rename_i h1
  have h1 : soundP p = true := by simpa using h1
  rw [if_neg (by simp [h1])]
  split at h
  · cases h
  rename_i h2
  rw [if_neg h2]
  rw [putW_ok h1] at h2 ⊢
  exact ⟨okP_iff.2 ⟨hr, h1⟩, by omega, rfl⟩
theorem tell_told {p : Rp} (hr : rngP p) (h : (tellR p).2 = 0) : toldR (tellR p).1 = (p, 0) ∧ (tellR p).1.length ≤ 65528 := by
  obtain ⟨h1, h2, h3⟩ := tell_ok hr h
  rw [h3]
  exact ⟨told_ok.2 ⟨h1, rfl, h2⟩, h2⟩
theorem told_tell {b : Bytes} (h : (toldR b).2 = 0) : tellR (toldR b).1 = (b, 0) := by
  have h0 : toldR b = ((toldR b).1, 0) := by rw [← h]
  obtain ⟨h1, h2, h3⟩ := told_ok.1 h0
  have h4 := (okP_iff.1 h1).2
  unfold tellR
  rw [if_neg (by simp [h4]), putW_ok h4, ← h2, if_neg (by omega)]
end Go.Proofs.YtgdgebmlcgohhaaDoor.F
