/- Rows: what an argument holds, read by its form. Conditions: none. -/
import Derived.Test.YtofaihacmoacjaaDoorR2
import Derived.Test.YtofaihacmoacjaaDoorBulk
namespace Go.VC
open Go Go.ChangeShapes Go.ChangeAt Go.RowKit Go.Deep
set_option linter.unusedSimpArgs false
set_option linter.unusedVariables false

/-- The form of a type: numbers, truths, texts, lists, rows of parts. -/
inductive Sh where
  | int (k : IntKind) | bool | str | slc (e : Sh) | agg (fs : Sh) | nil | cons (f r : Sh)
structure SlT (α : Type) where
  a : Option Addr
  l : Nat
  c : Nat
  es : List α
def Sh.T : Sh → Type
  | .int _ => Int
  | .bool => Bool
  | .str => ByteArray
  | .slc e => SlT e.T
  | .agg fs => fs.T
  | .nil => Unit
  | .cons f r => f.T × r.T
def Sh.cells : (s : Sh) → s.T → List Value
  | .int k, n => [.int k n]
  | .bool, b => [.bool b]
  | .str, s => [.string s]
  | .slc _, x => [.slice x.a x.l x.c]
  | .agg fs, x => fs.cells x
  | .nil, _ => []
  | .cons f r, x => f.cells x.1 ++ r.cells x.2
def Sh.val : (s : Sh) → s.T → Value
  | .int k, n => .int k n
  | .bool, b => .bool b
  | .str, s => .string s
  | .slc _, x => .slice x.a x.l x.c
  | .agg fs, x => .agg (fs.cells x).toArray
  | .nil, _ => undef
  | .cons _ _, _ => undef
def Sh.size : Sh → Nat
  | .agg fs => fs.size
  | .nil => 0
  | .cons f r => f.size + r.size
  | _ => 1
theorem Sh.cells_length : ∀ (s : Sh) (x : s.T), (s.cells x).length = s.size
  | .int _, _ => rfl
  | .bool, _ => rfl
  | .str, _ => rfl
  | .slc _, _ => rfl
  | .agg fs, x => cells_length fs x
  | .nil, _ => rfl
  | .cons f r, x => by
    show (f.cells x.1 ++ r.cells x.2).length = f.size + r.size
    rw [List.length_append, cells_length f, cells_length r]
def Sh.ok (h : Heap) : (s : Sh) → s.T → Prop
  | .int k, n => (Lit.int k n).wf = true
  | .bool, _ => True
  | .str, s => s.size ≤ maxLen
  | .slc e, x => x.es.length = x.l ∧ x.l ≤ x.c ∧ x.c ≤ maxLen ∧ Sl h x.a (x.es.flatMap e.cells) ∧ (x.a = none → x.c = 0) ∧ ∀ y ∈ x.es, e.ok h y
  | .agg fs, x => fs.ok h x
  | .nil, _ => True
  | .cons f r, x => f.ok h x.1 ∧ r.ok h x.2
def Sh.bulk : (s : Sh) → s.T → Nat
  | .int _, _ => 1
  | .bool, _ => 1
  | .str, s => s.size + 1
  | .slc e, x => (x.es.map e.bulk).sum + (x.c - x.l) + 1
  | .agg fs, x => fs.bulk x + 1
  | .nil, _ => 0
  | .cons f r, x => f.bulk x.1 + r.bulk x.2
/-- Is it a type's form? -/
def Sh.chk (P : Program) : Sh → (TypeId → Bool) × (List (Nat × TypeId) → Nat → Bool)
  | .int k => (fun t => match P.underlying t with | some (.int k') => decide (k' = k) | _ => false, fun _ _ => false)
  | .bool => (fun t => match P.underlying t with | some .bool => true | _ => false, fun _ _ => false)
  | .str => (fun t => match P.underlying t with | some .string => true | _ => false, fun _ _ => false)
  | .slc e => (fun t => match P.underlying t with | some (.slice el) => (e.chk P).1 el && Nat.beq (P.cellsOf el) e.size | _ => false, fun _ _ => false)
  | .agg fs => (fun t => match P.underlying t with
      | some (.struct a) => (fs.chk P).2 (a.toList.map fun f => (f.offset, f.type)) 0 && Nat.beq (P.cellsOf t) fs.size
      | some (.array n e) => (fs.chk P).2 ((List.range n).map fun i => (i * P.cellsOf e, e)) 0 && Nat.beq (P.cellsOf t) fs.size
      | _ => false, fun _ _ => false)
  | .nil => (fun _ => false, fun l _ => l.isEmpty)
  | .cons f r => (fun _ => false, fun l o => match l with
      | [] => false
      | x :: l' => Nat.beq x.1 o && (f.chk P).1 x.2 && Nat.beq (P.cellsOf x.2) f.size && (r.chk P).2 l' (o + f.size))
/-- How many bytes each list and text takes that is met. -/
def Sh.ws (P : Program) : (s : Sh) → TypeId ⊕ List TypeId → s.T → List Nat
  | .str, _, x => [ByteArray.size x]
  | .slc e, .inl t, x => match P.underlying t with
    | some (.slice el) => x.c * P.bytesOf el :: x.es.flatMap (e.ws P (.inl el))
    | _ => []
  | .agg fs, .inl t, x => match P.underlying t with
    | some (.struct a) => fs.ws P (.inr (a.toList.map (·.type))) x
    | some (.array n e) => fs.ws P (.inr ((List.range n).map fun _ => e)) x
    | _ => []
  | .cons f r, .inr (t :: ts), x => f.ws P (.inl t) x.1 ++ r.ws P (.inr ts) x.2
  | _, _, _ => []
section
variable {H : Type} {enc : TypeId × Value → H} {P : Program} {w : World}
theorem weights_all (e : TypeId) : ∀ (ds : List (DataW H)), DataW.weightsEach P (ds.map fun _ => e) ds = DataW.weightsAll P e ds
  | [] => rfl
  | d :: ds => by simp only [List.map_cons, DataW.weightsEach, DataW.weightsAll, weights_all e ds]
theorem weights_mem (e : TypeId) : ∀ {ds : List (DataW H)} {d : DataW H} {n : Nat}, d ∈ ds → n ∈ d.weights P e → n ∈ DataW.weightsAll P e ds
  | x :: ds, d, n, hd, hn => by
    simp only [DataW.weightsAll, List.mem_append]
    rcases List.mem_cons.1 hd with rfl | hd
    · exact .inl hn
    · exact .inr (weights_mem e hd hn)
theorem bulks_sum {α : Type} {f : α → Nat} : ∀ {xs : List α} {ds : List (DataW H)}, xs.length = ds.length → (∀ (i : Nat) x d, xs[i]? = some x → ds[i]? = some d → f x ≤ Go.Proofs.YtofaihacmoacjaaDoor.Rows.uptoBulk d) → (xs.map f).sum ≤ Go.Proofs.YtofaihacmoacjaaDoor.Rows.uptoBulkAll ds
  | [], [], _, _ => by simp
  | x :: xs, d :: ds, hl, h => by
    have h0 := h 0 x d rfl rfl
    have := bulks_sum (f := f) (xs := xs) (ds := ds) (by simpa using hl) fun i y e h1 h2 => h (i + 1) y e (by simpa using h1) (by simpa using h2)
    simp only [List.map_cons, List.sum_cons, Go.Proofs.YtofaihacmoacjaaDoor.Rows.uptoBulkAll]
    omega
theorem all_reads {T : Type} {f : T → List Value} {Q : T → DataW H → Prop} {R : List Value → DataW H → Prop} (hR : ∀ cs d, R cs d → ∃ x, cs = f x ∧ Q x d) : ∀ (vss : List (List Value)) (ds : List (DataW H)), vss.length = ds.length → (∀ (i : Nat) cs, vss[i]? = some cs → ∃ d, ds[i]? = some d ∧ R cs d) →
    ∃ xs : List T, xs.length = ds.length ∧ vss = xs.map f ∧ ∀ (i : Nat) x d, xs[i]? = some x → ds[i]? = some d → Q x d
  | [], [], _, _ => ⟨[], rfl, rfl, by simp⟩
  | cs :: vss, d :: ds, hl, h => by
    obtain ⟨d', h1, h2⟩ := h 0 cs rfl
    cases h1
    obtain ⟨x, rfl, hq⟩ := hR _ _ h2
    obtain ⟨xs, e1, rfl, e3⟩ := all_reads hR vss ds (by simpa using hl) fun i c hi => by simpa using h (i + 1) c (by simpa using hi)
    refine ⟨x :: xs, by simp [e1], rfl, fun i y e h1 h2 => ?_⟩
    cases i with
    | zero => simp at h1 h2; subst h1; subst h2; exact hq
    | succ i => exact e3 i y e (by simpa using h1) (by simpa using h2)
theorem Sh.reads : ∀ (s : Sh),
    (∀ (t : TypeId) (n : Nat) (cs : List Value) (d : DataW H) (p : List MemPlace), (s.chk P).1 t = true → Tr enc P w n t cs d p → ∃ x : s.T, cs = s.cells x ∧ s.ok w.heap x ∧ s.bulk x ≤ Go.Proofs.YtofaihacmoacjaaDoor.Rows.uptoBulk d ∧ ∀ n ∈ s.ws P (.inl t) x, n = 0 ∨ n ∈ d.weights P t) ∧
    (∀ (l : List (Nat × TypeId)) (o : Nat) (cs : List Value) (ds : List (DataW H)), (s.chk P).2 l o = true → cs.length = o + s.size → l.length = ds.length →
      (∀ (i : Nat) f, l[i]? = some f → ∃ (n : Nat) (d : DataW H) (p : List MemPlace), ds[i]? = some d ∧ Tr enc P w n f.2 ((cs.drop f.1).take (P.cellsOf f.2)) d p) →
      ∃ x : s.T, cs.drop o = s.cells x ∧ s.ok w.heap x ∧ s.bulk x ≤ Go.Proofs.YtofaihacmoacjaaDoor.Rows.uptoBulkAll ds ∧ ∀ n ∈ s.ws P (.inr (l.map (·.2))) x, n = 0 ∨ n ∈ DataW.weightsEach P (l.map (·.2)) ds) := by
  intro s
  induction s with
  | int k =>
    refine ⟨fun t n cs d p hc h => ?_, fun l o cs ds hc => by simp [Sh.chk] at hc⟩
    simp only [Sh.chk] at hc
    split at hc
    · rename_i k' ht
      simp only [decide_eq_true_eq] at hc
      subst hc
      obtain ⟨x, rfl, rfl, hw⟩ := trod_int' ht h
      exact ⟨x, rfl, hw, Nat.le_refl _, fun n hn => by simp [Sh.ws] at hn⟩
    · simp at hc
  | bool =>
    refine ⟨fun t n cs d p hc h => ?_, fun l o cs ds hc => by simp [Sh.chk] at hc⟩
    simp only [Sh.chk] at hc
    split at hc
    · rename_i ht
      obtain ⟨b, rfl, hx⟩ := DataW.trod_bool ht h
      cases hx
      exact ⟨b, rfl, trivial, Nat.le_refl _, fun n hn => by simp [Sh.ws] at hn⟩
    · simp at hc
  | str =>
    refine ⟨fun t n cs d p hc h => ?_, fun l o cs ds hc => by simp [Sh.chk] at hc⟩
    simp only [Sh.chk] at hc
    split at hc
    · rename_i ht
      obtain ⟨b, rfl, rfl, hs⟩ := trod_string' ht h
      refine ⟨b, rfl, hs, ?_, fun n hn => ?_⟩
      · rw [Go.Proofs.YtofaihacmoacjaaDoor.bulks.string_eq]
        simp [Sh.bulk]
      · simp only [Sh.ws, List.mem_singleton] at hn
        subst hn
        exact .inr (by simp [DataW.weights])
    · simp at hc
  | slc e ih =>
    refine ⟨fun t n cs d p hc h => ?_, fun l o cs ds hc => by simp [Sh.chk] at hc⟩
    simp only [Sh.chk] at hc
    split at hc
    · rename_i el ht
      simp only [Bool.and_eq_true] at hc
      have hsz := Nat.eq_of_beq_eq_true hc.2
      obtain ⟨a, l, c, vss, m, ds, rfl, h1, h2, h3, h4, h5, h6, h7, h8⟩ := trod_slice' ht h
      obtain ⟨xs, e1, e2, e3⟩ := all_reads (f := e.cells) (Q := fun x d => e.ok w.heap x ∧ e.bulk x ≤ Go.Proofs.YtofaihacmoacjaaDoor.Rows.uptoBulk d ∧ ∀ n ∈ e.ws P (.inl el) x, n = 0 ∨ n ∈ d.weights P el) (R := fun cs d => ∃ p, Tr enc P w m el cs d p)
        (fun cs d ⟨p, hp⟩ => ih.1 el m cs d p hc.1 hp) vss ds (by omega) fun i cs hi => by
          obtain ⟨d, p, h9, h10⟩ := h7 i cs hi
          exact ⟨d, h9, p, h10⟩
      refine ⟨⟨a, l, c, xs⟩, rfl, ⟨by simp only; omega, h1, h2, ?_, ?_, ?_⟩, ?_, fun n hn => ?_⟩
      · rw [e2, ← List.flatMap_def] at h5; exact h5
      · intro ha
        simp only at ha
        rcases h8 with ⟨_, _, h9, _⟩ | ⟨sp, rfl, hsp⟩
        · exact h9
        · subst ha
          cases n with
          | zero => simp [Tr, DataW.trod] at h
          | succ n =>
            cases l with
            | succ l =>
              exfalso
              obtain ⟨x, r, hx⟩ : ∃ x r, vss = x :: r := by cases vss with | nil => simp at h3 | cons x r => exact ⟨x, r, rfl⟩
              cases c with
              | zero => omega
              | succ c => simp [Tr, DataW.trod, ht] at h
            | zero =>
              cases c with
              | zero => rfl
              | succ c => simp [Tr, DataW.trod, ht] at h
      · intro y hy
        obtain ⟨i, hi⟩ := List.mem_iff_getElem?.1 hy
        have hlt := (List.getElem?_eq_some_iff.1 hi).1
        exact (e3 i y _ hi (List.getElem?_eq_getElem (show i < ds.length by simp only at hlt; omega))).1
      · have hs := bulks_sum (f := e.bulk) (xs := xs) (ds := ds) e1 fun i x d h1 h2 => (e3 i x d h1 h2).2.1
        simp only [Sh.bulk]
        rcases h8 with ⟨rfl, h9, h10, _⟩ | ⟨sp, rfl, hsp⟩
        · have : xs = [] := List.eq_nil_of_length_eq_zero (by omega)
          subst this
          simp [Go.Proofs.YtofaihacmoacjaaDoor.Rows.uptoBulk, h9, h10]
        · have := Go.Proofs.YtofaihacmoacjaaDoor.bulks.length_le sp
          simp only [Go.Proofs.YtofaihacmoacjaaDoor.Rows.uptoBulk]
          omega
      · simp only [Sh.ws, ht, List.mem_cons] at hn
        rcases hn with rfl | hn
        · rcases h8 with ⟨rfl, h9, h10, h11⟩ | ⟨sp, rfl, hsp⟩
          · left
            rw [h10, Nat.zero_mul]
          · right
            simp only [DataW.weights, ht, List.mem_cons]
            left
            congr 1
            omega
        · obtain ⟨y, hy, hn⟩ := List.mem_flatMap.1 hn
          obtain ⟨i, hi⟩ := List.mem_iff_getElem?.1 hy
          have hlt := (List.getElem?_eq_some_iff.1 hi).1
          have hd := List.getElem?_eq_getElem (show i < ds.length by omega)
          rcases (e3 i y _ hi hd).2.2 n hn with h0 | h0
          · exact .inl h0
          · right
            rcases h8 with ⟨rfl, h9, h10, h11⟩ | ⟨sp, rfl, hsp⟩
            · omega
            · simp only [DataW.weights, ht, List.mem_cons, List.mem_append]
              exact .inr (.inl (weights_mem el (List.mem_of_getElem? hd) h0))
    · simp at hc
  | agg fs ih =>
    refine ⟨fun t n cs d p hc h => ?_, fun l o cs ds hc => by simp [Sh.chk] at hc⟩
    simp only [Sh.chk] at hc
    split at hc
    · rename_i a ht
      simp only [Bool.and_eq_true] at hc
      have hsz := Nat.eq_of_beq_eq_true hc.2
      obtain ⟨xs, m, _, hx, hl, hlen, hf⟩ := DataW.trod_struct ht h
      cases hx
      obtain ⟨x, e1, e2, e3, e4⟩ := ih.2 _ 0 cs (xs.map (·.1)) hc.1 (by omega) (by simp [hlen]) fun i f hi => by
        rw [List.getElem?_map] at hi
        obtain ⟨g, hg, rfl⟩ := Option.map_eq_some_iff.1 hi
        have hlt : i < xs.length := by
          have := (List.getElem?_eq_some_iff.1 hg).1
          rw [hlen]; simpa using this
        refine ⟨m, xs[i].1, xs[i].2, by simp [hlt], ?_⟩
        have := hf i g (by simpa using hg)
        rw [List.getElem?_eq_getElem hlt] at this
        exact this
      refine ⟨x, (show cs = fs.cells x by simpa using e1), e2, ?_, fun n hn => ?_⟩
      · simp only [Sh.bulk, Go.Proofs.YtofaihacmoacjaaDoor.Rows.uptoBulk]
        omega
      · simp only [Sh.ws, ht] at hn
        simp only [DataW.weights, ht]
        have e5 : (a.toList.map fun f => (f.offset, f.type)).map (·.2) = a.toList.map (·.type) := by rw [List.map_map]; rfl
        rw [e5] at e4
        exact e4 n hn
    · rename_i k e ht
      simp only [Bool.and_eq_true] at hc
      have hsz := Nat.eq_of_beq_eq_true hc.2
      obtain ⟨xs, m, _, hx, hl, hlen, hf⟩ := DataW.trod_array ht h
      cases hx
      obtain ⟨x, e1, e2, e3, e4⟩ := ih.2 _ 0 cs (xs.map (·.1)) hc.1 (by omega) (by simp [hlen]) fun i f hi => by
        rw [List.getElem?_map] at hi
        obtain ⟨g, hg, rfl⟩ := Option.map_eq_some_iff.1 hi
        have hik : i < k := by simpa using (List.getElem?_eq_some_iff.1 hg).1
        have hgi : g = i := by simp [hik] at hg; exact hg.symm
        subst hgi
        have hlt : g < xs.length := by omega
        refine ⟨m, xs[g].1, xs[g].2, by simp [hlt], ?_⟩
        have := hf g hik
        rw [List.getElem?_eq_getElem hlt] at this
        exact this
      refine ⟨x, (show cs = fs.cells x by simpa using e1), e2, ?_, fun n hn => ?_⟩
      · simp only [Sh.bulk, Go.Proofs.YtofaihacmoacjaaDoor.Rows.uptoBulk]
        omega
      · simp only [Sh.ws, ht] at hn
        simp only [DataW.weights, ht]
        have e5 : ((List.range k).map fun i => (i * P.cellsOf e, e)).map (·.2) = (List.range k).map fun _ => e := by rw [List.map_map]; rfl
        rw [e5] at e4
        have e6 := e4 n hn
        have e7 : ((List.range k).map fun _ => e) = (xs.map (·.1)).map fun _ => e := by
          rw [List.map_const', List.map_const', List.length_range, List.length_map, hlen]
        rw [e7, weights_all] at e6
        exact e6
    · simp at hc
  | nil =>
    refine ⟨fun t n cs d p hc => by simp [Sh.chk] at hc, fun l o cs ds hc hl hd hf => ?_⟩
    simp only [Sh.size] at hl
    refine ⟨(), ?_, trivial, Nat.zero_le _, fun n hn => by simp [Sh.ws] at hn⟩
    rw [List.drop_of_length_le (by omega)]; rfl
  | cons f r ihf ihr =>
    refine ⟨fun t n cs d p hc => by simp [Sh.chk] at hc, fun l o cs ds hc hl hd hf => ?_⟩
    cases l with
    | nil => simp [Sh.chk] at hc
    | cons x l =>
      simp only [Sh.chk, Bool.and_eq_true] at hc
      obtain ⟨⟨⟨h1, h2⟩, h3⟩, h4⟩ := hc
      have h1 := Nat.eq_of_beq_eq_true h1
      have h3 := Nat.eq_of_beq_eq_true h3
      simp only [Sh.size] at hl
      cases ds with
      | nil => simp at hd
      | cons d0 ds =>
        obtain ⟨n, d, p, e1, e2⟩ := hf 0 x rfl
        cases e1
        obtain ⟨y, e3, e4, e5, e9⟩ := ihf.1 _ _ _ _ _ h2 e2
        obtain ⟨z, e6, e7, e8, e10⟩ := ihr.2 l (o + f.size) cs ds h4 (by omega) (by simpa using hd) fun i g hi => by simpa using hf (i + 1) g (by simpa using hi)
        refine ⟨(y, z), ?_, ⟨e4, e7⟩, ?_, fun n hn => ?_⟩
        · show cs.drop o = f.cells y ++ r.cells z
          rw [← e3, ← e6, h1, h3, ← List.drop_drop]
          exact (List.take_append_drop _ _).symm
        · simp only [Sh.bulk, Go.Proofs.YtofaihacmoacjaaDoor.Rows.uptoBulkAll]
          omega
        · simp only [List.map_cons, Sh.ws, List.mem_append] at hn
          simp only [List.map_cons, DataW.weightsEach, List.mem_append]
          exact hn.elim (fun h => (e9 n h).imp id .inl) (fun h => (e10 n h).imp id .inr)
/-- What an argument is. -/
theorem Sh.argW (s : Sh) {r : Reach} {b0 : Nat} {t : TypeId} {v : Value} {d : DataW H} {p : List MemPlace} (hc : (s.chk P).1 t = true) (hval : Value.okWide P w r b0 t v) (h : DataW.Trod enc P w 0 (fun _ => true) true t v d p) :
    ∃ x : s.T, v = s.val x ∧ s.ok w.heap x ∧ s.bulk x ≤ Go.Proofs.YtofaihacmoacjaaDoor.Rows.uptoBulk d ∧ ∀ n ∈ s.ws P (.inl t) x, n = 0 ∨ n ∈ d.weights P t := by
  obtain ⟨n, h⟩ := h
  obtain ⟨x, e1, e2, e3⟩ := (Sh.reads s).1 t n _ d p hc h
  refine ⟨x, ?_, e2, e3⟩
  have one : ∀ u, v.cells.toList = [u] → (∀ cs, v ≠ .agg cs) → v = u := fun u hu hn => by
    cases v with
    | agg cs => exact absurd rfl (hn cs)
    | _ => simpa [Value.cells] using hu
  cases s with
  | int k =>
    refine one _ e1 fun cs hv => ?_
    subst hv
    simp only [Sh.chk] at hc
    split at hc
    · rename_i k' ht; simp [Value.okWide, ht, Cell.okWide, Cell.ok] at hval
    · simp at hc
  | bool =>
    refine one _ e1 fun cs hv => ?_
    subst hv
    simp only [Sh.chk] at hc
    split at hc
    · rename_i ht; simp [Value.okWide, ht, Cell.okWide, Cell.ok] at hval
    · simp at hc
  | str =>
    refine one _ e1 fun cs hv => ?_
    subst hv
    simp only [Sh.chk] at hc
    split at hc
    · rename_i ht; simp [Value.okWide, ht, Cell.okWide, Cell.ok] at hval
    · simp at hc
  | slc e =>
    refine one _ e1 fun cs hv => ?_
    subst hv
    simp only [Sh.chk] at hc
    split at hc
    · rename_i el ht; simp [Value.okWide, ht, Cell.okWide, Cell.ok] at hval
    · simp at hc
  | agg fs =>
    simp only [Sh.chk] at hc
    split at hc
    · rename_i a ht
      simp only [Value.okWide, ht] at hval
      obtain ⟨cs, rfl, _⟩ := hval
      have : cs = (fs.cells x).toArray := by
        apply Array.ext'
        simpa [Value.cells] using (show _ = fs.cells x from e1)
      subst this; rfl
    · rename_i a ht
      simp only [Value.okWide, ht] at hval
      obtain ⟨cs, rfl, _⟩ := hval
      have : cs = (fs.cells x).toArray := by
        apply Array.ext'
        simpa [Value.cells] using (show _ = fs.cells x from e1)
      subst this; rfl
    · simp at hc
  | nil => simp [Sh.chk] at hc
  | cons f r => simp [Sh.chk] at hc
theorem Sh.arg (s : Sh) {r : Reach} {b0 : Nat} {t : TypeId} {v : Value} {d : DataW H} {p : List MemPlace} (hc : (s.chk P).1 t = true) (hval : Value.okWide P w r b0 t v) (h : DataW.Trod enc P w 0 (fun _ => true) true t v d p) :
    ∃ x : s.T, v = s.val x ∧ s.ok w.heap x ∧ s.bulk x ≤ Go.Proofs.YtofaihacmoacjaaDoor.Rows.uptoBulk d := by
  obtain ⟨x, e1, e2, e3, _⟩ := s.argW hc hval h
  exact ⟨x, e1, e2, e3⟩
theorem Sh.ws_slc {e : Sh} {t el : TypeId} {x : (Sh.slc e).T} {N : Nat} (ht : P.underlying t = some (.slice el)) (h : ∀ n ∈ (Sh.slc e).ws P (.inl t) x, n ≤ N) : x.c * P.bytesOf el ≤ N ∧ ∀ y ∈ x.es, ∀ n ∈ e.ws P (.inl el) y, n ≤ N := by
  simp only [Sh.ws, ht] at h
  exact ⟨h _ List.mem_cons_self, fun y hy n hn => h n (List.mem_cons_of_mem _ (List.mem_flatMap.2 ⟨y, hy, hn⟩))⟩
theorem Sh.ws_struct {fs : Sh} {t : TypeId} {a : Array Field} {x : (Sh.agg fs).T} {N : Nat} (ht : P.underlying t = some (.struct a)) (h : ∀ n ∈ (Sh.agg fs).ws P (.inl t) x, n ≤ N) : ∀ n ∈ fs.ws P (.inr (a.toList.map (·.type))) x, n ≤ N := by
  simp only [Sh.ws, ht] at h
  exact h
theorem Sh.struct_of {t : TypeId} {l : List TypeId} (h : (match P.underlying t with | some (.struct a) => some (a.toList.map (·.type)) | _ => none) = some l) : ∃ a : Array Field, P.underlying t = some (.struct a) ∧ a.toList.map (·.type) = l := by
  split at h
  · rename_i a ha
    exact ⟨a, ha, Option.some.inj h⟩
  · cases h
theorem Sh.ws_struct' {fs : Sh} {t : TypeId} {l : List TypeId} {x : (Sh.agg fs).T} {N : Nat} (ht : (match P.underlying t with | some (.struct a) => some (a.toList.map (·.type)) | _ => none) = some l) (h : ∀ n ∈ (Sh.agg fs).ws P (.inl t) x, n ≤ N) : ∀ n ∈ fs.ws P (.inr l) x, n ≤ N := by
  obtain ⟨a, e1, e2⟩ := Sh.struct_of ht
  have h1 := Sh.ws_struct e1 h
  rwa [e2] at h1
theorem Sh.ws_cons {f r : Sh} {t : TypeId} {ts : List TypeId} {x : (Sh.cons f r).T} {N : Nat} (h : ∀ n ∈ (Sh.cons f r).ws P (.inr (t :: ts)) x, n ≤ N) : (∀ n ∈ f.ws P (.inl t) x.1, n ≤ N) ∧ ∀ n ∈ r.ws P (.inr ts) x.2, n ≤ N := by
  simp only [Sh.ws, List.mem_append] at h
  exact ⟨fun n hn => h n (.inl hn), fun n hn => h n (.inr hn)⟩
theorem Sh.ws_str {t : TypeId} {x : Sh.str.T} {N : Nat} (h : ∀ n ∈ Sh.str.ws P (.inl t) x, n ≤ N) : ByteArray.size x ≤ N := h _ (by simp [Sh.ws])
end
theorem len_le_bulk {α : Type} (f : α → Nat) (hf : ∀ x, 1 ≤ f x) : ∀ xs : List α, xs.length ≤ (xs.map f).sum
  | [] => by simp
  | x :: xs => by have := hf x; have := len_le_bulk f hf xs; simp only [List.length_cons, List.map_cons, List.sum_cons]; omega
theorem mem_le_bulk {α : Type} (f : α → Nat) : ∀ {xs : List α} {x : α}, x ∈ xs → f x ≤ (xs.map f).sum
  | y :: xs, x, hx => by
    simp only [List.map_cons, List.sum_cons]
    rcases List.mem_cons.1 hx with rfl | hx
    · omega
    · have := mem_le_bulk f hx; omega
theorem flat_one {α : Type} (f : α → Value) : ∀ xs : List α, xs.flatMap (fun x => [f x]) = xs.map f
  | [] => rfl
  | x :: xs => by rw [List.flatMap_cons, flat_one f xs]; rfl
theorem wf_i64 {n : Int} (h : (Lit.int .i64 n).wf = true) : -9223372036854775808 ≤ n ∧ n < 9223372036854775808 := by
  simp only [Lit.wf, Bool.and_eq_true, decide_eq_true_eq] at h
  have h1 : IntKind.i64.min = -9223372036854775808 := by decide
  have h2 : IntKind.i64.max = 9223372036854775807 := by decide
  omega
theorem slc_len {e : Sh} {x : (Sh.slc e).T} {n : Nat} (he : ∀ y : e.T, 1 ≤ e.bulk y) (hb : (Sh.slc e).bulk x ≤ n) : x.es.length + (x.c - x.l) + 1 ≤ n := by
  have h1 := len_le_bulk e.bulk he x.es
  have h2 : (Sh.slc e).bulk x = (x.es.map e.bulk).sum + (x.c - x.l) + 1 := rfl
  omega
theorem slc_mem {e : Sh} {x : (Sh.slc e).T} {n : Nat} {y : e.T} (hb : (Sh.slc e).bulk x ≤ n) (hy : y ∈ x.es) : e.bulk y + 1 ≤ n := by
  have h1 := mem_le_bulk e.bulk hy
  have h2 : (Sh.slc e).bulk x = (x.es.map e.bulk).sum + (x.c - x.l) + 1 := rfl
  omega
end Go.VC
