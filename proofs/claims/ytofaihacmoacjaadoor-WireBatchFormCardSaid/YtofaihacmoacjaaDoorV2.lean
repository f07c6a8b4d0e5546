/- Verification conditions: what one operation asks, and that it is sound. Conditions: none. -/
import Derived.Test.YtofaihacmoacjaaDoorV1
namespace Go.VC
open Go

/-! ### One operation -/
def fieldOf (P : Program) (s : TypeId) (f : Nat) : Option (Nat × TypeId) :=
  match P.underlying s with
  | some (.struct fs) => match fs[f]? with
    | some x => match P.info? x.type with
      | some i => match i.size with
        | 0 => none
        | _ => some (x.offset, x.type)
      | none => none
    | none => none
  | _ => none
def sizeP (P : Program) (t : TypeId) : Option Nat := (P.info? t).map (·.size)
def isAggP (P : Program) (t : TypeId) : Option Bool :=
  match P.underlying t with
  | some (.struct _) => some true
  | some (.array _ _) => some true
  | some _ => some false
  | none => none
def enters (P : Program) (f : FuncId) : Option (List TypeId) :=
  match P.funcs[f]? with
  | some fn => match fn.name == "runtime.NumGoroutine", fn.body.isNone with
    | false, false => some fn.resultTypes.toList
    | _, _ => none
  | none => none
def VCall (P : Program) (f : FuncId) (args : Array Value) (h : Heap) (K : KV) : Prop :=
  match enters P f with
  | some ts => CallsH P f args h (answers P ts K)
  | none => False
def VInvoke (P : Program) (v : Value) (args : Array Value) (h : Heap) (K : KV) : Prop :=
  match v with
  | .func (.func f) first captured => VCall P f (first ++ args ++ captured) h K
  | _ => False
def minI (x y : Int) : Int := if y < x then y else x
def maxI (x y : Int) : Int := if y > x then y else x
/-- An index into a slice. -/
def VIdx (a : Option Addr) (len : Nat) (i : Int) (size : Nat) (K : Addr → Prop) : Prop := 0 ≤ i ∧ i < len ∧ VSome a fun ad => K (ad.add (i.toNat * size))
/-- A slice of a slice. -/
def VSlice (size : Nat) (a : Option Addr) (cap : Nat) (lo hi mx : Int) (K : Option Addr → Nat → Nat → Prop) : Prop :=
  ∃ l h m : Nat, lo = l ∧ hi = h ∧ mx = m ∧ l ≤ h ∧ h ≤ m ∧ m ≤ cap ∧ K (if m = l then a else a.map (·.add (l * size))) (h - l) (m - l)
def VSliceS (s : ByteArray) (lo hi : Int) (K : ByteArray → Prop) : Prop :=
  ∃ l h : Nat, lo = l ∧ hi = h ∧ l ≤ h ∧ h ≤ s.size ∧ K (s.extract l h)
def optI (e : Env) (x : Option Operand) (d : Int) (K : Int → Prop) : Prop :=
  match x with
  | none => K d
  | some x => match opnd e x with
    | .int _ n => K n
    | _ => False
def VBool (v : Value) (K : Bool → Prop) : Prop := match v with | .bool b => K b | _ => False
def notV (v : Value) (K : Value → Prop) : Prop := match v with | .bool b => K (.bool !b) | _ => False

def vcBuiltin (P : Program) (b : Builtin) (argTypes : Array TypeId) (args : Array Value) (K : Value → Prop) : Prop :=
  match b with
  | .len => match argTypes.toList, args.toList with
    | [t], [x] => match P.underlying t, x with
      | some .string, .string s => K (.int .i64 s.size)
      | some (.array n _), _ => K (.int .i64 n)
      | some (.slice _), .slice _ n _ => K (.int .i64 n)
      | _, _ => False
    | _, _ => False
  | .cap => match argTypes.toList, args.toList with
    | [t], [x] => match P.underlying t, x with
      | some (.slice _), .slice _ _ n => K (.int .i64 n)
      | _, _ => False
    | _, _ => False
  | .min => match args.toList with
    | [.int k x, .int _ y] => K (.int k (minI x y))
    | _ => False
  | .max => match args.toList with
    | [.int k x, .int _ y] => K (.int k (maxI x y))
    | _ => False
  | _ => False

def vcBin (P : Program) (op : BinOp) (t : TypeId) (ox oy : Operand) (x y : Value) (K : Value → Prop) : Prop :=
  match x, y with
  | .int k a, .int k' b => match op with
    | .shl => binInt .shl k a b K
    | .shr => binInt .shr k a b K
    | op => if k = k' then binInt op k a b K else False
  | .string a, .string b => match op with
    | .eql => K (.bool (strEq a b))
    | .neq => K (.bool (!strEq a b))
    | .add => ((a.size + b.size : Nat) : Int) ≤ 9223372036854775807 ∧ K (.string (a ++ b))
      | op => PureTo P (binOp op t (.string a) (.string b)) fun v => ∃ c : Bool, v = .bool c ∧ K (.bool c)
  | .bool a, .bool b => match P.underlying t, op with
    | some .bool, .eql => K (.bool (a == b))
    | some .bool, .neq => K (.bool (!(a == b)))
    | _, _ => False
  | .pointer a, .pointer none => match P.underlying t, op with
    | some (.pointer _), .eql => K (.bool a.isNone)
    | some (.pointer _), .neq => K (.bool (!a.isNone))
    | _, _ => False
  | .slice a _ _, .slice none _ _ => match P.underlying t, op with
    | some (.slice _), .eql => K (.bool a.isNone)
    | some (.slice _), .neq => K (.bool (!a.isNone))
    | _, _ => False
  | x, y => PureTo P (do eqGuard op t ox oy x y; binOp op t x y) fun v => ∃ c : Bool, v = .bool c ∧ K (.bool c)

def partsOf (P : Program) (fs : List Field) : Option (List (Nat × Nat)) :=
  match fs with
  | [] => some []
  | f :: r => match P.info? f.type, partsOf P r with
    | some i, some l => some ((f.offset, i.size) :: l)
    | _, _ => none
def buildV (P : Program) (t : TypeId) (parts : List (Nat × Value)) : Option (Array Value) :=
  match (P.info? t).bind (·.zero), P.underlying t with
  | some z, some (.struct fs) => match partsOf P fs.toList with
    | some places => Instr.fill (places.toArray[·]?) z.cells parts
    | none => none
  | some z, some (.array _ el) => match sizeP P el with
    | some size => Instr.fill (fun i => some (i * size, size)) z.cells parts
    | none => none
  | _, _ => none
def buildSliceV (P : Program) (t : TypeId) (len : Nat) (parts : List (Nat × Value)) : Option (Array Value × TypeId) :=
  match P.underlying t with
  | some (.slice el) => match P.info? el with
    | some i => match Nat.beq (len * i.size) 0 with
      | true => match Instr.fill (fun j => some (j * i.size, i.size)) #[] parts with
        | some cells => some (cells, el)
        | none => none
      | false => match Nat.ble (len * i.size) 16777216, i.zero with
        | true, some z => match Instr.fill (fun j => some (j * i.size, i.size)) ((Array.range (len * i.size)).map (z.cells[· % z.cells.size]!)) parts with
          | some cells => some (cells, el)
          | none => none
        | _, _ => none
    | none => none
  | _ => none
def partsV (e : Env) (parts : Array (Nat × Operand)) : List (Nat × Value) := parts.toList.map fun x => (x.1, opnd e x.2)
def vcLoad (P : Program) (t : TypeId) (a : Addr) (h : Heap) (K : KV) : Prop :=
  match P.info? t with
  | some i => match isAggP P t, i.zero with
    | some true, some (.agg zs) => match Nat.beq i.size zs.size with
      | true => loadL h a 0 zs.toList fun vs => K (.agg vs.toArray) h
      | false => False
    | some false, some z => loadC h a z fun v => K v h
    | _, _ => False
  | none => False
def vcStore (P : Program) (t : TypeId) (a : Addr) (v : Value) (h : Heap) (K : Heap → Prop) : Prop :=
  match P.info? t with
  | some i => match v with
    | .agg cs => match Nat.beq i.size cs.size with
      | true => storeL a 0 cs.toList h K
      | false => False
    | v => match Nat.beq i.size 1 with
      | true => storeOne h a v K
      | false => False
  | none => False
def convPure (P : Program) (src dst : TypeId) : Bool :=
  match P.underlying src, P.underlying dst with
  | some (.int _), some (.int _) => true
  | some .string, some .string => true
  | _, _ => false
/-- Operations that look at no memory and change none. -/
def isPure (P : Program) (o : Op) : Bool :=
  match o with
  | .move _ => true
  | .assign _ => true
  | .pick _ _ _ => true
  | .build _ _ => true
  | .nilCheck _ => true
  | .binOp _ _ _ _ _ => true
  | .unOp _ _ _ => true
  | .convert src dst _ => convPure P src dst
  | .sliceToArrayPointer _ _ => true
  | .makeFunc _ _ _ => true
  | .slice _ _ _ _ _ => true
  | .fieldAddr _ _ _ => true
  | .field _ _ _ => true
  | .indexAddr _ _ _ => true
  | .index _ _ _ => true
  | .extract _ _ => true
  | .call c => match c.callee with
    | .builtin .len => true
    | .builtin .cap => true
    | .builtin .min => true
    | .builtin .max => true
    | _ => false
  | _ => false
def vcPure (P : Program) (o : Oper) (e : Env) (K : Value → Prop) : Prop :=
  match o.op with
  | .move x => K (opnd e x)
  | .assign x => K (opnd e x)
  | .pick c a b => VBool (opnd e c) fun t => cond t (K (opnd e a)) (K (opnd e b))
  | .build t parts => match buildV P t (partsV e parts) with
    | some cells => K (.agg cells)
    | none => False
  | .nilCheck x => match opnd e x with
    | .pointer p => VSome p fun a => K (.pointer (some a))
    | .func (.func f) fs cs => K (.func (.func f) fs cs)
    | _ => False
  | .binOp op t x y _ => vcBin P op t x y (opnd e x) (opnd e y) K
  | .unOp op _ x => match op, opnd e x with
    | .not, .bool b => K (.bool !b)
    | .neg, .int k n => K (.int k (k.wrap (0 - n)))
    | .xor, .int k n => K (.int k (bitsOp .xor k (if k.signed then -1 else k.max) n))
    | _, _ => False
  | .convert src dst x => match P.underlying src, P.underlying dst, opnd e x with
    | some (.int _), some (.int k), .int _ n => K (.int k (k.wrap n))
    | some .string, some .string, .string s => K (.string s)
    | _, _, _ => False
  | .sliceToArrayPointer arr x => PureTo P (Instr.arrayAt arr (opnd e x)) fun v => ∃ a : Option Addr, v = .pointer a ∧ K (.pointer a)
  | .makeFunc fn first captured => K (.func fn (first.map (opnd e)) (captured.map (opnd e)))
  | .slice t x lo hi mx => match mx.isSome && hi.isNone with
   | true => False
   | false => match P.underlying t, opnd e x with
    | some (.slice el), .slice a l c => match sizeP P el with
      | some sz => optI e lo 0 fun lo => optI e hi l fun hi => optI e mx c fun mx => VSlice sz a c lo hi mx fun a' l' c' => K (.slice a' l' c')
      | none => False
    | some .string, .string s => match mx with
      | none => optI e lo 0 fun lo => optI e hi s.size fun hi => VSliceS s lo hi fun s' => K (.string s')
      | some _ => False
    | some (.array n el), .pointer p => VSome p fun a => match sizeP P el with
      | some sz => optI e lo 0 fun lo => optI e hi n fun hi => optI e mx n fun mx => VSlice sz (some a) n lo hi mx fun a' l' c' => K (.slice a' l' c')
      | none => False
    | _, _ => False
  | .fieldAddr s x f => match opnd e x, fieldOf P s f with
    | .pointer p, some (off, _) => VSome p fun a => K (.pointer (some (addN a off)))
    | _, _ => False
  | .field s x f => PureTo P (Instr.field s (opnd e x) f) fun v => anyOf P o.type fun u => v = u ∧ K u
  | .indexAddr t x ix => match P.underlying t, opnd e x, opnd e ix with
    | some (.slice el), .slice a len _, .int _ i => match sizeP P el with
      | some sz => VIdx a len i sz fun ad => K (.pointer (some ad))
      | none => False
    | some (.array n el), .pointer p, .int _ i => match sizeP P el with
      | some sz => VIdx p n i sz fun ad => K (.pointer (some ad))
      | none => False
    | _, _, _ => False
  | .index t x ix => match P.underlying t, opnd e x, opnd e ix with
    | some .string, .string s, .int _ i => 0 ≤ i ∧ ∃ b : UInt8, s[i.toNat]? = some b ∧ K (.int .u8 b.toNat)
    | _, x, ix => PureTo P (Instr.index t x ix) fun v => anyOf P o.type fun u => v = u ∧ K u
  | .extract x i => match opnd e x with
    | .tuple vs => match vs[i]? with
      | some v => K v
      | none => False
    | _ => False
  | .call c => match c.callee with
    | .builtin b => vcBuiltin P b c.argTypes (c.args.map (opnd e)) K
    | _ => False
  | _ => False
def vcOp (P : Program) (o : Oper) (e : Env) (h : Heap) (K : KV) : Prop :=
  match isPure P o.op with
  | true => vcPure P o e fun v => K v h
  | false => match o.op with
    | .alloc t => match (P.info? t).bind (·.zero) with
      | some z => VNew h (.cells z.cells t) fun b h1 => K (.pointer (some ⟨b, 0, none⟩)) h1
      | none => False
    | .box t x => VNew h (.cells (opnd e x).cells t) fun b h1 => K (.pointer (some ⟨b, 0, none⟩)) h1
    | .buildSlice t len parts => match buildSliceV P t len (partsV e parts) with
      | some (cells, el) => VNew h (.cells cells el) fun b h1 => K (.slice (some ⟨b, 0, none⟩) len len) h1
      | none => False
    | .load t x => match opnd e x with
      | .pointer p => VSome p fun a => vcLoad P t a h K
      | _ => False
    | .store t x y => match opnd e x with
      | .pointer p => VSome p fun a => vcStore P t a (opnd e y) h fun h1 => K undef h1
      | _ => False
    | .convert src dst x => RunsTo P (convert src dst (opnd e x)) h fun v h' => anyOf P dst fun u => v = u ∧ K u h'
    | .makeSlice t l c => RunsTo P (Instr.makeSlice t (opnd e l) (opnd e c)) h fun v h' => anyOf P t fun u => v = u ∧ K u h'
    | .call c => match c.callee with
      | .value (.func f) => VCall P f (c.args.map (opnd e)) h K
      | .value x => VInvoke P (opnd e x) (c.args.map (opnd e)) h K
      | .builtin .append => RunsTo P (Builtin.append_ c.argTypes o.type (c.args.map (opnd e))) h fun v h' => anyOf P o.type fun u => v = u ∧ K u h'
      | _ => False
    | _ => False
end Go.VC
