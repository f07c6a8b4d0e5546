/- Package wire: batches in plain Lean, lists of events that are held. Conditions: none. -/
import Derived.Test.YtofaihacmoacjaaDoorWD
namespace Go.Proofs.YtofaihacmoacjaaDoor.F
open Go Go.VC Go.Proofs
set_option linter.unusedSimpArgs false
set_option linter.unusedVariables false
set_option maxRecDepth 100000
attribute [local irreducible] CallsH RunsTo PureTo

def sumStep (s : Nat × Nat) (x : UInt8) : Nat × Nat := ((s.1 + x.toNat) % 65521, (s.2 + (s.1 + x.toNat) % 65521) % 65521)
def sums (b : Bytes) : Nat × Nat := b.foldl sumStep (1, 0)
def sumB (b : Bytes) : Bytes := [UInt8.ofNat ((sums b).2 / 256), UInt8.ofNat (sums b).2, UInt8.ofNat ((sums b).1 / 256), UInt8.ofNat (sums b).1]
theorem sumStep_lt (s : Nat × Nat) (x : UInt8) : (sumStep s x).1 < 65521 ∧ (sumStep s x).2 < 65521 := ⟨Nat.mod_lt _ (by omega), Nat.mod_lt _ (by omega)⟩
theorem sums_lt' : ∀ (b : Bytes) (s : Nat × Nat), s.1 < 65521 → s.2 < 65521 → (b.foldl sumStep s).1 < 65521 ∧ (b.foldl sumStep s).2 < 65521
  | [], s, h1, h2 => ⟨h1, h2⟩
  | x :: b, s, _, _ => sums_lt' b _ (sumStep_lt s x).1 (sumStep_lt s x).2
theorem sums_lt (b : Bytes) : (sums b).1 < 65521 ∧ (sums b).2 < 65521 := sums_lt' b _ (by decide) (by decide)
theorem sums_next {b : Bytes} {j : Nat} {x : UInt8} (h : b[j]? = some x) : sums (b.take (j + 1)) = sumStep (sums (b.take j)) x := by
  unfold sums
  rw [take_next h, List.foldl_append]; rfl
def faultEs : List Ev → Int
  | [] => 0
  | e :: r => if faultE e = 0 then faultEs r else faultE e
def bodyB (es : List Ev) : Bytes := putN es.length ++ es.flatMap encE
def packR (es : List Ev) : Bytes × Int :=
  if 1024 < es.length then ([], 2) else if faultEs es ≠ 0 then ([], faultEs es) else if 1048576 < (bodyB es).length + 4 then ([], 2) else (bodyB es ++ sumB (bodyB es), 0)
def batR : Bytes → Rd (List Ev) := bindR (numb 0 1024) fun n => rep evR n.toNat
def unpackR (b : Bytes) : List Ev × Int :=
  if 1048576 < b.length then ([], 2) else if b.length < 5 then ([], 30) else if sumB (b.take (b.length - 4)) ≠ b.drop (b.length - 4) then ([], 32)
  else match batR (b.take (b.length - 4)) with
    | .ok es n => if n < b.length - 4 then ([], 31) else (es, 0)
    | .err e => ([], e)
theorem fault_take {es : List Ev} : ∀ {j : Nat} {x : Ev}, es[j]? = some x → faultEs (es.take j) = 0 → faultE x ≠ 0 → faultEs es = faultE x := by
  induction es with
  | nil => intro j x h; simp at h
  | cons e es ih =>
    intro j x h h0 hx
    cases j with
    | zero =>
      simp at h; subst h
      unfold faultEs
      rw [if_neg hx]
    | succ j =>
      simp only [List.take_succ_cons, faultEs] at h0
      split at h0
      · rename_i he
        unfold faultEs
        rw [if_pos he]
        exact ih (by simpa using h) h0 hx
      · rename_i he; exact absurd h0 he
theorem fault_next {es : List Ev} : ∀ {j : Nat} {x : Ev}, es[j]? = some x → faultEs (es.take j) = 0 → faultE x = 0 → faultEs (es.take (j + 1)) = 0 := by
  induction es with
  | nil => intro j x h; simp at h
  | cons e es ih =>
    intro j x h h0 hx
    cases j with
    | zero =>
      simp at h; subst h
      simp [faultEs, hx]
    | succ j =>
      simp only [List.take_succ_cons, faultEs] at h0 ⊢
      split at h0
      · rename_i he
        rw [if_pos he]
        exact ih (by simpa using h) h0 hx
      · rename_i he; exact absurd h0 he
theorem faultEs0 : ∀ {es : List Ev}, faultEs es = 0 ↔ ∀ e ∈ es, faultE e = 0
  | [] => by simp [faultEs]
  | e :: es => by
    have ih := faultEs0 (es := es)
    unfold faultEs
    by_cases h : faultE e = 0
    · rw [if_pos h, ih]; simp [h]
    · rw [if_neg h]; simp [h]
theorem encEs_len : ∀ {es : List Ev}, faultEs es = 0 → (es.flatMap encE).length ≤ 5000 * es.length
  | [], _ => by simp
  | e :: es, h => by
    have h := faultEs0.1 h
    have h1 := encE_len (h e (by simp))
    have h2 := encEs_len (es := es) (faultEs0.2 fun x hx => h x (by simp [hx]))
    rw [List.flatMap_cons, List.length_append, List.length_cons]; omega
theorem take_enc_le {es : List Ev} {j : Nat} (h : faultEs (es.take j) = 0) (hl : es.length ≤ 1024) : ((es.take j).flatMap encE).length ≤ 5120000 := by
  have := encEs_len h
  have : (es.take j).length ≤ 1024 := by rw [List.length_take]; omega
  omega
theorem rngEs_take {es : List Ev} {j : Nat} (h : ∀ e ∈ es, rngE e) : ∀ e ∈ es.take j, rngE e := fun e he => h e (List.mem_of_mem_take he)
/-! ### The batch's form -/
theorem Form.bat : Form batR bodyB (fun es => es.length ≤ 1024 ∧ ∀ e ∈ es, okE e) := by
  have k := Form.bind (fun es : List Ev => (es.length : Int)) (Form.numb (lo := 0) (hi := 1024) (by omega) (by omega)) (g := fun n => F.rep evR n.toNat) (fun n _ => Form.rep Form.ev n.toNat) (fun n es hn h => by
    have := h.1
    show (es.length : Int) = n
    omega)
  refine k.congr (fun es => ?_) (fun es _ => rfl)
  constructor
  · rintro ⟨h1, h2, h3⟩
    have h1 : (0 : Int) ≤ es.length ∧ (es.length : Int) ≤ 1024 := h1
    exact ⟨by omega, h3⟩
  · rintro ⟨h1, h2⟩
    exact ⟨⟨by show (0 : Int) ≤ (es.length : Int); omega, by show (es.length : Int) ≤ 1024; omega⟩, by simp, h2⟩
theorem unpack_rng {b : Bytes} : ∀ e ∈ (unpackR b).1, okE e := by
  intro e he
  unfold unpackR at he
  split at he
  · cases he
  split at he
  · cases he
  split at he
  · cases he
  split at he
  · rename_i es n hn
    split at he
    · cases he
    · exact (Form.bat.pg _ _ _ hn).1.2 e he
  · cases he
theorem unpack_len (b : Bytes) : (unpackR b).1.length ≤ 1024 := by
  unfold unpackR
  split
  · exact Nat.zero_le _
  split
  · exact Nat.zero_le _
  split
  · exact Nat.zero_le _
  split
  · rename_i es n hn
    split
    · exact Nat.zero_le _
    · exact (Form.bat.pg _ _ _ hn).1.1
  · exact Nat.zero_le _
theorem okE_len {e : Ev} (h : okE e) : e.vs.length ≤ 16 := (fault0.1 h.1).2.2.2.1
/-! ### Lists of events that are held -/
variable {S F G : Nat → Prop} {h0 h h1 : Heap} {L R L' : List A} {a b : Option Addr} {l c l2 c2 p t at_ : Nat} {bs cs : List UInt8} {bss css : List Bytes} {e : Ev} {v : Val} {es fs : List Ev}
theorem und22 : Tryd.prog.underlying 22 = some (.slice 27) := by kernel_rfl
abbrev noSe : Se := ⟨none, 0, noEv⟩
theorem T22 : SlTy Tryd.prog 22 27 3 48 (.agg (seV noSe).toArray) := ⟨und22, by kernel_rfl, rfl, by omega, by omega⟩
abbrev VSe (x : Se) : A := VV x.a x.e.vs.length x.c x.e.vs
def LE (a : Option Addr) (l c : Nat) (es : List Ev) : A :=
  A.ex fun xs : List Se => A.fact (xs.map Se.e = es) (A.all [A.vec 27 3 a l c (xs.flatMap seV), A.all (xs.map VSe)])
theorem LE.open (k : St S h0 h (LE a l c es :: R)) : ∃ xs : List Se, xs.map Se.e = es ∧ St S h0 h (A.vec 27 3 a l c (xs.flatMap seV) :: A.all (xs.map VSe) :: R) := by
  obtain ⟨xs, k⟩ := St.opens k
  obtain ⟨he, k⟩ := k.facts
  exact ⟨xs, he, St.open (L := [A.vec 27 3 a l c (xs.flatMap seV), A.all (xs.map VSe)]) k⟩
theorem LE.close {xs : List Se} (he : xs.map Se.e = es) (k : St S h0 h (A.vec 27 3 a l c (xs.flatMap seV) :: A.all (xs.map VSe) :: R)) : St S h0 h (LE a l c es :: R) :=
  St.closes (f := fun xs : List Se => A.fact (xs.map Se.e = es) (A.all [A.vec 27 3 a l c (xs.flatMap seV), A.all (xs.map VSe)])) (x := xs) (St.mkfact he (St.close (L := [A.vec 27 3 a l c (xs.flatMap seV), A.all (xs.map VSe)]) k))
theorem St.lenil (k : St S h0 h R) : St S h0 h (LE none 0 0 [] :: R) :=
  LE.close (xs := []) rfl ((k.all0).vnil 27 (sz := 3) (by omega))
theorem LE.len (k : St S h0 h (LE a l c es :: R)) : es.length = l ∧ l ≤ c ∧ c < 9223372036854775808 := by
  obtain ⟨xs, he, k⟩ := LE.open k
  obtain ⟨v, _, hc⟩ := St.vec (a := a) k
  have := v.len
  rw [flatMap_len seV_len] at this
  rw [← he, List.length_map]
  exact ⟨by omega, v.le, hc⟩
theorem all_sl {xs : List Se} {x : Se} (k : St S h0 h (A.all (xs.map VSe) :: R)) (hx : x ∈ xs) : Sl h x.a (x.e.vs.flatMap valV) := by
  obtain ⟨F, hh, hf⟩ := k.own
  obtain ⟨F1, F2, k1, _⟩ := hh
  obtain ⟨F', k', _⟩ := Holds.get (show Holds (xs.map VSe) F1 h from k1) (List.mem_map_of_mem hx)
  exact k'.1.sl
theorem LE.ro (k : St S h0 h (LE a l c es :: R)) (hr : ∀ e ∈ es, rngE e) : RoE none_ h a l es := by
  have hl := (LE.len k).1
  obtain ⟨xs, he, k⟩ := LE.open k
  refine ⟨xs, (k.sl (a := a)).ro, fun x hx => ⟨(all_sl k.drop hx).ro, rfl, hr _ ?_⟩, he, hl⟩
  rw [← he]; exact List.mem_map_of_mem hx
/-- One event more. -/
theorem app_ev {x : Se} {bb : Nat} (k : St S h0 h (A.blk bb (seV x).toArray 27 :: VSe x :: LE a l c es :: R)) (hb : l + 1 ≤ 2932031007402) {K : KV}
    (q : ∀ a' c' h', St S h0 h' (LE a' (l + 1) c' (es ++ [x.e]) :: R) → K (.slice a' (l + 1) c') h') : RunsTo Tryd.prog (Builtin.append_ #[22, 22] 22 #[.slice a l c, .slice (some ⟨bb, 0, none⟩) 1 1]) h K := by
  obtain ⟨xs, he, k⟩ := LE.open k.pull2
  have hsl : Sl h (some ⟨bb, 0, none⟩) (seV x) := k.slB (b := bb)
  refine k.app T22 und22 (by simp) (Src.slice hsl rfl) (oneC_se x) (by omega) fun a' c' h' k => q a' c' h' ?_
  have e1 : xs.flatMap seV ++ seV x = (xs ++ [x]).flatMap seV := by rw [List.flatMap_append]; simp
  rw [e1] at k
  refine LE.close (xs := xs ++ [x]) (by rw [List.map_append, he]; rfl) ?_
  have k := k.pull3.pull2.pull1.allIn
  have k := k.allPerm (L' := (xs ++ [x]).map VSe) (by rw [List.map_append]; exact (List.perm_append_singleton _ _).symm)
  exact (k.pull2.drop).pull1
end Go.Proofs.YtofaihacmoacjaaDoor.F
