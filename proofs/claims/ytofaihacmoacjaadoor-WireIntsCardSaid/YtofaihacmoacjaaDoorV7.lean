/- Verification conditions of whole bodies: sequences, branches, blocks, loops, results; they are sound. Conditions: none. -/
import Derived.Test.YtofaihacmoacjaaDoorV6
namespace Go.VC
open Go

inductive Ty where
  | int (k : IntKind) | bool | str | ptr | slc | val
structure Ann where
  loops : Nat → List (Nat × Ty)
  draws : Nat → Array Nat
  joins : Nat → Option (List (Nat × Ty))
def memN : List Nat → Nat → Bool
  | [], _ => false
  | x :: r, t => match Nat.beq x t with | true => true | false => memN r t
theorem memN_iff : ∀ {l : List Nat} {t : Nat}, memN l t = true ↔ t ∈ l
  | [], t => by simp [memN]
  | x :: r, t => by
    unfold memN
    cases hb : Nat.beq x t with
    | true => have := Nat.eq_of_beq_eq_true hb; subst this; simp
    | false =>
      have hne : t ≠ x := fun e => by subst e; simp at hb
      simp only [memN_iff, List.mem_cons, hne, false_or]
/-- What a body writes, and what its regions' guards may fix. -/
def dsts : Code → List Nat
  | .region _ ops _ => dstsL ops.toList
  | .seq a b => dsts a ++ dsts b
  | .cond _ a b => dsts a ++ dsts b
  | .block _ b => dsts b
  | .loop b => dsts b
  | _ => []
def headR : Code → Option Nat
  | .region id _ _ => some id
  | .seq a b => match headR a with | some i => some i | none => headR b
  | .cond _ a b => match headR a with | some i => some i | none => headR b
  | .block _ b => headR b
  | .loop b => headR b
  | _ => none
def havoc (ds : List Nat) (g e : Env) : Env := fun t => match memN ds t with | true => g t | false => e t
def updL : List Nat → List Value → Env → Env
  | s :: ss, v :: vs, e => upd (updL ss vs e) s v
  | _, _, e => e
def InvT : List Ty → Type
  | [] => Prop
  | .int _ :: r => Int → InvT r
  | .bool :: r => Bool → InvT r
  | .str :: r => ByteArray → InvT r
  | .ptr :: r => Option Addr → InvT r
  | .slc :: r => Option Addr → Nat → Nat → InvT r
  | .val :: r => Value → InvT r
/-- The relation at some values. -/
def applyI : (ts : List Ty) → InvT ts → List Value → Prop
  | [], I, _ => I
  | .int k :: r, I, v :: vs => match v with | .int k' n => if k' = k then applyI r (I n) vs else False | _ => False
  | .bool :: r, I, v :: vs => match v with | .bool b => applyI r (I b) vs | _ => False
  | .str :: r, I, v :: vs => match v with | .string s => applyI r (I s) vs | _ => False
  | .ptr :: r, I, v :: vs => match v with | .pointer a => applyI r (I a) vs | _ => False
  | .slc :: r, I, v :: vs => match v with | .slice a l c => applyI r (I a l c) vs | _ => False
  | .val :: r, I, v :: vs => applyI r (I v) vs
  | _ :: _, _, [] => False
/-- For all values of which the relation holds. -/
def forallI : (ts : List Ty) → InvT ts → (List Value → Prop) → Prop
  | [], I, B => I → B []
  | .int k :: r, I, B => ∀ n : Int, forallI r (I n) fun vs => B (.int k n :: vs)
  | .bool :: r, I, B => ∀ b : Bool, forallI r (I b) fun vs => B (.bool b :: vs)
  | .str :: r, I, B => ∀ s : ByteArray, forallI r (I s) fun vs => B (.string s :: vs)
  | .ptr :: r, I, B => ∀ a : Option Addr, forallI r (I a) fun vs => B (.pointer a :: vs)
  | .slc :: r, I, B => ∀ (a : Option Addr) (l c : Nat), forallI r (I a l c) fun vs => B (.slice a l c :: vs)
  | .val :: r, I, B => ∀ v : Value, forallI r (I v) fun vs => B (v :: vs)
theorem forallI.at : ∀ (ts : List Ty) (I : InvT ts) (B : List Value → Prop) (vs : List Value), forallI ts I B → vs.length = ts.length → applyI ts I vs → B vs := by
  intro ts
  induction ts with
  | nil =>
    intro I B vs h hl ha
    cases vs with
    | nil => exact (show I → B [] from h) ha
    | cons v vs => simp at hl
  | cons t r ih =>
    intro I B vs h hl ha
    cases vs with
    | nil => simp at hl
    | cons v vs =>
      have hl' : vs.length = r.length := by simpa using hl
      cases t with
      | int k =>
        have h' : ∀ n : Int, forallI r (I n) fun vs => B (.int k n :: vs) := h
        cases v with
        | int k' n =>
          have ha' : if k' = k then applyI r (I n) vs else False := ha
          by_cases e : k' = k
          · rw [if_pos e] at ha'; subst e; exact ih (I n) _ vs (h' n) hl' ha'
          · rw [if_neg e] at ha'; exact ha'.elim
        | _ => exact False.elim (show False from ha)
      | bool =>
        have h' : ∀ b : Bool, forallI r (I b) fun vs => B (.bool b :: vs) := h
        cases v with
        | bool b => exact ih (I b) _ vs (h' b) hl' (show applyI r (I b) vs from ha)
        | _ => exact False.elim (show False from ha)
      | str =>
        have h' : ∀ b : ByteArray, forallI r (I b) fun vs => B (.string b :: vs) := h
        cases v with
        | string b => exact ih (I b) _ vs (h' b) hl' (show applyI r (I b) vs from ha)
        | _ => exact False.elim (show False from ha)
      | ptr =>
        have h' : ∀ b : Option Addr, forallI r (I b) fun vs => B (.pointer b :: vs) := h
        cases v with
        | pointer b => exact ih (I b) _ vs (h' b) hl' (show applyI r (I b) vs from ha)
        | _ => exact False.elim (show False from ha)
      | slc =>
        have h' : ∀ (a : Option Addr) (l c : Nat), forallI r (I a l c) fun vs => B (.slice a l c :: vs) := h
        cases v with
        | slice a l c => exact ih (I a l c) _ vs (h' a l c) hl' (show applyI r (I a l c) vs from ha)
        | _ => exact False.elim (show False from ha)
      | val =>
        have h' : ∀ v : Value, forallI r (I v) fun vs => B (v :: vs) := h
        exact ih (I v) _ vs (h' v) hl' (show applyI r (I v) vs from ha)
def slotsOf (l : List (Nat × Ty)) : List Nat := l.map (·.1)
def tysOf (l : List (Nat × Ty)) : List Ty := l.map (·.2)
def valsAt (e : Env) : List Nat → List Value
  | [] => []
  | s :: ss => e s :: valsAt e ss
theorem valsAt_length (e : Env) : ∀ l : List Nat, (valsAt e l).length = l.length
  | [] => rfl
  | _ :: l => by simp [valsAt, valsAt_length e l]

def vcC (P : Program) (A : Ann) : Code → Env → Heap → KE → (Nat → KE) → KE → Prop
  | .skip, e, h, KN, _, _ => KN e h
  | .region id ops draw, e, h, KN, _, _ => match draw with
    | false => vcOps P ops ops.toList e h KN
    | true => vcDraw P ops (A.draws id) ops.size (Array.replicate ops.size false) [] e h KN
  | .seq a b, e, h, KN, KX, KR => match (headR b).bind A.joins with
    | none => vcC P A a e h (fun e h => vcC P A b e h KN KX KR) KX KR
    | some l => ∃ J : Heap → InvT (tysOf l), vcC P A a e h (fun e' h' => applyI _ (J h') (valsAt e' (slotsOf l))) KX KR ∧
      ∀ (h1 : Heap) (g : Env), forallI _ (J h1) fun vs => vcC P A b (updL (slotsOf l) vs (havoc (dsts a) g e)) h1 KN KX KR
  | .cond c a b, e, h, KN, KX, KR => VBool (opnd e c) fun t => cond t (vcC P A a e h KN KX KR) (vcC P A b e h KN KX KR)
  | .block id c, e, h, KN, KX, KR => vcC P A c e h KN (fun j => match Nat.beq j id with | true => KN | false => KX j) KR
  | .exit id, e, h, _, KX, _ => KX id e h
  | .ret, e, h, _, _, KR => KR e h
  | .loop c, e, h, _, KX, KR => match headR c with
    | none => False
    | some id => ∃ I : Nat → Heap → InvT (tysOf (A.loops id)), (∃ n, applyI _ (I n h) (valsAt e (slotsOf (A.loops id)))) ∧
      ∀ (n : Nat) (h1 : Heap) (g : Env), forallI _ (I n h1) fun vs =>
        vcC P A c (updL (slotsOf (A.loops id)) vs (havoc (dsts c) g e)) h1 (fun e' h' => ∃ m, m < n ∧ applyI _ (I m h') (valsAt e' (slotsOf (A.loops id)))) KX KR
  | _, _, _, _, _, _ => False

end Go.VC
