/- Verification conditions for the translated code, over heaps: the forms of memory, of the operations, and that they are sound. Conditions: none. -/
import Derived.Tactics
import Derived.Orders
import Derived.KernelRfl
import Derived.Laws.Cells
namespace Go.VC
open Go

abbrev Heap := Array Obj
abbrev Env := Nat → Value
abbrev KV := Value → Heap → Prop

/-! ### Memory -/
def cellH (h : Heap) (a : Addr) : Option Value :=
  match h[a.block]? with
  | some (.cells c _ _) => if a.spot.isSome then none else c[a.off]?
  | _ => none
def frozenH (h : Heap) (a : Addr) : Bool :=
  match h[a.block]? with
  | some (.cells _ _ (lo, hi)) => lo ≤ a.off && a.off < hi
  | _ => false
def setH (h : Heap) (a : Addr) (v : Value) : Heap :=
  h.modify a.block fun
      | .cells c elem frozen => .cells (if a.spot.isSome then c else c.setIfInBounds a.off v) elem frozen
      | o => o
theorem cell_eq (w : World) (a : Addr) : w.cell? a = cellH w.heap a := rfl
theorem frozen_eq (w : World) (a : Addr) : w.frozen? a = frozenH w.heap a := rfl
theorem setCell_heap (w : World) (a : Addr) (v : Value) : (w.setCell a v).heap = setH w.heap a v := rfl

structure Rest (w w' : World) : Prop where
  os : w'.os = w.os
  tape : w'.tape = w.tape
  output : w'.output = w.output
theorem Rest.refl (w : World) : Rest w w := ⟨rfl, rfl, rfl⟩
theorem Rest.trans {w w1 w2 : World} (h : Rest w w1) (k : Rest w1 w2) : Rest w w2 := ⟨k.os.trans h.os, k.tape.trans h.tape, k.output.trans h.output⟩
theorem Rest.drew {w w1 : World} (h : Rest w { w1 with drawn := w1.drawn + 1 }) : Rest w w1 := ⟨h.os, h.tape, h.output⟩

/-! ### Runs and calls over heaps -/
def RunsTo (P : Program) (s : Sem Value) (h : Heap) (R : KV) : Prop :=
  ∀ w : World, w.heap = h → ∃ v w', s.run P w = .ok v w' ∧ Rest w w' ∧ R v w'.heap
def CallsH (P : Program) (f : FuncId) (args : Array Value) (h : Heap) (R : KV) : Prop :=
  ∀ w : World, w.heap = h → Calls P f args w (fun e w' => ∃ v, e = .returned v ∧ Rest w w' ∧ R v w'.heap)
theorem RunsTo.mono {P : Program} {s : Sem Value} {h : Heap} {R R' : KV} (hr : RunsTo P s h R) (k : ∀ v h', R v h' → R' v h') : RunsTo P s h R' :=
  fun w hw => let ⟨v, w', e, r, q⟩ := hr w hw; ⟨v, w', e, r, k _ _ q⟩
theorem CallsH.mono {P : Program} {f : FuncId} {args : Array Value} {h : Heap} {R R' : KV} (hr : CallsH P f args h R) (k : ∀ v h', R v h' → R' v h') : CallsH P f args h R' :=
  fun w hw => (hr w hw).mono fun _ _ ⟨v, e, r, q⟩ => ⟨v, e, r, k _ _ q⟩
theorem RunsTo.pure {P : Program} {v : Value} {h : Heap} {R : KV} (q : R v h) : RunsTo P (Pure.pure v) h R :=
  fun w hw => ⟨v, w, rfl, .refl w, hw ▸ q⟩
theorem RunsTo.ok {P : Program} {s : Sem Value} {v : Value} {h : Heap} {R : KV} (hs : ∀ w : World, w.heap = h → s.run P w = .ok v w) (q : R v h) : RunsTo P s h R :=
  fun w hw => ⟨v, w, hs w hw, .refl w, hw ▸ q⟩

/-- The same value in every world, and no world changed. -/
def PureTo (P : Program) (s : Sem Value) (R : Value → Prop) : Prop := ∃ v, (∀ w : World, s.run P w = .ok v w) ∧ R v
theorem PureTo.ok {P : Program} {s : Sem Value} {v : Value} {R : Value → Prop} (hs : ∀ w : World, s.run P w = .ok v w) (q : R v) : PureTo P s R := ⟨v, hs, q⟩
theorem PureTo.mono {P : Program} {s : Sem Value} {R R' : Value → Prop} (hr : PureTo P s R) (k : ∀ v, R v → R' v) : PureTo P s R' :=
  let ⟨v, e, r⟩ := hr; ⟨v, e, k _ r⟩

/-! ### Environments -/
def upd (e : Env) (d : Nat) (v : Value) : Env := fun t => match Nat.beq t d with | true => v | false => e t
def putE (e : Env) (o : Option Nat) (v : Value) : Env := match o with | some d => upd e d v | none => e
def opnd (e : Env) : Operand → Value
  | .tmp t => e t
  | .const v => v
  | .global g => .pointer (some ⟨g, 0, none⟩)
  | .func f => .func (.func f) #[] #[]
def Rel (n : Nat) (e : Env) (a : Act) : Prop := a.defers = [] ∧ a.tmps.size = n ∧ ∀ t, a.tmps.getD t undef = e t
theorem Rel.eval {n : Nat} {e : Env} {a : Act} (h : Rel n e a) : a.eval = opnd e := by
  funext x
  cases x with
  | tmp t => exact h.2.2 t
  | const v => rfl
  | global g => rfl
  | func f => rfl
theorem Rel.put {n : Nat} {e : Env} {a : Act} (h : Rel n e a) {d : Option Nat} (hd : d.all (· < n) = true) (v : Value) : Rel n (putE e d v) (a.put d v) := by
  cases d with
  | none => exact h
  | some d =>
    have hd' : d < n := by simpa using hd
    refine ⟨h.1, by simp [Act.put, h.2.1], fun t => ?_⟩
    have h2 := h.2.1
    simp only [Act.put, putE, upd]
    by_cases e' : t = d
    · subst e'
      simp [h2, hd']
    · have hb : Nat.beq t d = false := by
        cases hb : Nat.beq t d with
        | false => rfl
        | true => exact absurd (Nat.eq_of_beq_eq_true hb) e'
      rw [hb]
      simp only
      rw [← h.2.2 t]
      simp [Array.getElem?_setIfInBounds_ne (Ne.symm e')]

/-! ### Typed choices -/
def anyLike : Value → (Value → Prop) → Prop
  | .int k _, K => ∃ n : Int, K (.int k n)
  | .bool _, K => ∃ b : Bool, K (.bool b)
  | .string _, K => ∃ s : ByteArray, K (.string s)
  | .pointer _, K => ∃ a : Option Addr, K (.pointer a)
  | .slice _ _ _, K => ∃ (a : Option Addr) (l c : Nat), K (.slice a l c)
  | _, K => ∃ v : Value, K v
theorem anyLike.ex {z : Value} {K : Value → Prop} (h : anyLike z K) : ∃ v, K v := by
  cases z <;> simp only [anyLike] at h <;> first
    | (obtain ⟨n, h⟩ := h; exact ⟨_, h⟩)
    | (obtain ⟨a, l, c, h⟩ := h; exact ⟨_, h⟩)
def anyList : List Value → (List Value → Prop) → Prop
  | [], K => K []
  | z :: zs, K => anyLike z fun v => anyList zs fun vs => K (v :: vs)
theorem anyList.ex : ∀ {zs : List Value} {K : List Value → Prop}, anyList zs K → ∃ vs, K vs
  | [], _, h => ⟨[], h⟩
  | _ :: _, _, h => let ⟨_, h1⟩ := anyLike.ex h; let ⟨_, h2⟩ := anyList.ex h1; ⟨_, h2⟩
/-- A value of a type, as its zero value's form tells. -/
def anyOf (P : Program) (t : TypeId) (K : Value → Prop) : Prop :=
  match (P.info? t).bind (·.zero) with
  | some (.agg cs) => anyList cs.toList fun vs => K (.agg vs.toArray)
  | some z => anyLike z K
  | none => ∃ v, K v
theorem anyOf.ex {P : Program} {t : TypeId} {K : Value → Prop} (h : anyOf P t K) : ∃ v, K v := by
  unfold anyOf at h
  split at h
  · obtain ⟨vs, h⟩ := anyList.ex h; exact ⟨_, h⟩
  · exact anyLike.ex h
  · exact h
def anyOfs (P : Program) : List TypeId → (List Value → Prop) → Prop
  | [], K => K []
  | t :: ts, K => anyOf P t fun v => anyOfs P ts fun vs => K (v :: vs)
theorem anyOfs.ex {P : Program} : ∀ {ts : List TypeId} {K : List Value → Prop}, anyOfs P ts K → ∃ vs, K vs
  | [], _, h => ⟨[], h⟩
  | _ :: _, _, h => let ⟨_, h1⟩ := anyOf.ex h; let ⟨_, h2⟩ := anyOfs.ex h1; ⟨_, h2⟩
/-- What a call of results of these types answers. -/
def answers (P : Program) (ts : List TypeId) (K : KV) (v : Value) (h : Heap) : Prop :=
  match ts with
  | [] => v = .tuple #[] ∧ K (.tuple #[]) h
  | [t] => anyOf P t fun u => v = u ∧ K u h
  | ts => anyOfs P ts fun us => v = .tuple us.toArray ∧ K (.tuple us.toArray) h
theorem answers.to {P : Program} {ts : List TypeId} {K : KV} {v : Value} {h : Heap} (ha : answers P ts K v h) : K v h := by
  unfold answers at ha
  split at ha
  · obtain ⟨rfl, k⟩ := ha; exact k
  · obtain ⟨u, rfl, k⟩ := anyOf.ex ha; exact k
  · obtain ⟨u, rfl, k⟩ := anyOfs.ex ha; exact k

/-! ### The forms of memory operations -/
def addN (a : Addr) (n : Nat) : Addr := match n with | 0 => a | n + 1 => ⟨a.block, a.off + (n + 1), none⟩
theorem addN_eq (a : Addr) (n : Nat) : a.add n = addN a n := by cases n <;> simp [Addr.add, addN]
def VSome (p : Option Addr) (K : Addr → Prop) : Prop := match p with | some a => K a | none => False
theorem VSome.ex {p : Option Addr} {K : Addr → Prop} (h : VSome p K) : ∃ a, p = some a ∧ K a := by
  cases p with
  | none => exact h.elim
  | some a => exact ⟨a, rfl, h⟩
/-- One cell of a zero value's form. -/
def loadC (h : Heap) (a : Addr) (z : Value) (K : Value → Prop) : Prop := anyLike z fun v => cellH h a = some v ∧ K v
def loadL (h : Heap) (a : Addr) : Nat → List Value → (List Value → Prop) → Prop
  | _, [], K => K []
  | i, z :: zs, K => loadC h (addN a i) z fun v => loadL h a (i + 1) zs fun vs => K (v :: vs)
theorem loadL.ex (h : Heap) (a : Addr) : ∀ (zs : List Value) (i : Nat) (K : List Value → Prop), loadL h a i zs K →
    ∃ vs, vs.length = zs.length ∧ (∀ j v, vs[j]? = some v → cellH h (addN a (i + j)) = some v) ∧ K vs
  | [], i, K, hk => ⟨[], rfl, fun j v hj => by simp at hj, hk⟩
  | z :: zs, i, K, hk => by
    obtain ⟨v, hc, h1⟩ := anyLike.ex hk
    obtain ⟨vs, hl, hj, h2⟩ := loadL.ex h a zs (i + 1) _ h1
    refine ⟨v :: vs, by simp [hl], fun j u hu => ?_, h2⟩
    cases j with
    | zero => simp at hu; subst hu; exact hc
    | succ j => simp at hu; rw [show i + (j + 1) = i + 1 + j by omega]; exact hj j u hu
/-- A store of one cell. -/
def VStore (h : Heap) (a : Addr) (v : Value) (K : Heap → Prop) : Prop := (∃ v0, cellH h a = some v0) ∧ frozenH h a = false ∧ K (setH h a v)
def storeOne (h : Heap) (a : Addr) (v : Value) (K : Heap → Prop) : Prop :=
  match v with
  | .agg _ => False
  | .tuple _ => False
  | v => VStore h a v K
def storeL (a : Addr) : Nat → List Value → Heap → (Heap → Prop) → Prop
  | _, [], h, K => K h
  | i, v :: vs, h, K => storeOne h (addN a i) v fun h1 => storeL a (i + 1) vs h1 K
def VNew (h : Heap) (o : Obj) (K : Nat → Heap → Prop) : Prop := K h.size (h.push o)

theorem storeOne.run {P : Program} {h : Heap} {a : Addr} {v : Value} {K : Heap → Prop} (hs : storeOne h a v K) {w : World} (hw : w.heap = h) :
    ∃ w', (store a v).run P w = .ok () w' ∧ Rest w w' ∧ K w'.heap := by
  have key : v.oneCell' = true ∧ VStore h a v K := by
    cases v <;> first | exact hs.elim | exact ⟨rfl, hs⟩
  obtain ⟨h1, ⟨v0, hc⟩, hf, hk⟩ := key
  refine ⟨w.setCell a v, ?_, ⟨rfl, rfl, rfl⟩, ?_⟩
  · rw [run_store P w a v .plain h1, cell_eq, hw, hc]; simp only; rw [frozen_eq, hw, hf]; rfl
  · rw [setCell_heap, hw]; exact hk
theorem storeL.run {P : Program} {a : Addr} {K : Heap → Prop} : ∀ {vs : List Value} {i : Nat} {h : Heap}, storeL a i vs h K → ∀ {w : World}, w.heap = h →
    ∃ w', (storeCells a vs i).run P w = .ok () w' ∧ Rest w w' ∧ K w'.heap
  | [], i, h, hs, w, hw => ⟨w, rfl, .refl w, hw ▸ hs⟩
  | v :: vs, i, h, hs, w, hw => by
    obtain ⟨w1, e1, r1, k1⟩ := storeOne.run (P := P) hs hw
    obtain ⟨w2, e2, r2, k2⟩ := storeL.run (P := P) k1 rfl
    refine ⟨w2, ?_, r1.trans r2, k2⟩
    simp only [storeCells, addN_eq, Sem.run_bind, e1, Result.andThen_ok, e2]

/-! ### Pure operations on integers, bools, strings -/
def bitsOp (op : BinOp) (k : IntKind) (x y : Int) : Int :=
  match op with
  | .and => k.wrap (BitVec.ofInt k.bits x &&& BitVec.ofInt k.bits y).toNat
  | .or => k.wrap (BitVec.ofInt k.bits x ||| BitVec.ofInt k.bits y).toNat
  | .xor => k.wrap (BitVec.ofInt k.bits x ^^^ BitVec.ofInt k.bits y).toNat
  | _ => k.wrap (BitVec.ofInt k.bits x &&& ~~~(BitVec.ofInt k.bits y)).toNat
def strEq (x y : ByteArray) : Bool := x.toList == y.toList
/-- Integers of one kind. -/
def binInt (op : BinOp) (k : IntKind) (x y : Int) (K : Value → Prop) : Prop :=
  match op with
  | .add => K (.int k (k.wrap (x + y)))
  | .sub => K (.int k (k.wrap (x - y)))
  | .mul => K (.int k (k.wrap (x * y)))
  | .quo => y ≠ 0 ∧ K (.int k (k.wrap (x.tdiv y)))
  | .rem => y ≠ 0 ∧ K (.int k (x.tmod y))
  | .and => K (.int k (bitsOp .and k x y))
  | .or => K (.int k (bitsOp .or k x y))
  | .xor => K (.int k (bitsOp .xor k x y))
  | .andNot => K (.int k (bitsOp .andNot k x y))
  | .shl => 0 ≤ y ∧ K (.int k (k.wrap (x * 2 ^ (min y.toNat k.bits))))
  | .shr => 0 ≤ y ∧ K (.int k (x.fdiv (2 ^ (min y.toNat k.bits))))
  | .eql => K (.bool (x == y))
  | .neq => K (.bool (x != y))
  | .lss => K (.bool (decide (x < y)))
  | .leq => K (.bool (decide (x ≤ y)))
  | .gtr => K (.bool (decide (x > y)))
  | .geq => K (.bool (decide (x ≥ y)))
end Go.VC
