/- Wire's numbers, values, events: the program's and the document's, under this seat's numbers. Conditions: none. -/
import Derived.Test.YtgdgebmlcgohhaaGreatDoorN1
import Derived.Test.YtgdgebmlcgohhaaGreatDoorGA
import Derived.Test.YtgdgebmlcgohhaaGreatDoorGB
import Derived.Test.YtgdgebmlcgohhaaGreatDoorS3
import Derived.Test.YtgdgebmlcgohhaaGreatDoorM6
/-! ## Wire's numbers, values, forms, under this seat's numbers. -/
/-! ## Package wire: numbers, in plain Lean. -/
namespace Go.Proofs.YtgdgebmlcgohhaaGreatDoor.F
open Go Go.VC
set_option linter.unusedSimpArgs false
set_option linter.unusedVariables false

abbrev Bytes := List UInt8
/-- The groups of a number. -/
def putZ : Nat → Nat → Bytes
  | 0, z => [UInt8.ofNat z]
  | f + 1, z => if z < 128 then [UInt8.ofNat z] else UInt8.ofNat (128 + z % 128) :: putZ f (z / 128)
/-- A number with its sign behind. -/
def zig (n : Int) : Nat := if 0 ≤ n then 2 * n.toNat else 2 * (-(n + 1)).toNat + 1
def zag (z : Nat) : Int := if z % 2 = 0 then (z / 2 : Nat) else -((z / 2 : Nat) : Int) - 1
theorem zag_zig (n : Int) : zag (zig n) = n := by
  unfold zag zig
  split <;> split <;> omega
theorem zig_zag (z : Nat) : zig (zag z) = z := by
  unfold zag zig
  split <;> split <;> omega
def putN (n : Int) : Bytes := putZ 9 (zig n)
inductive Rd (α : Type) where
  | ok (x : α) (n : Nat)
  | err (e : Int)
/-- A number's groups, read. -/
def getZ : Nat → Nat → Bytes → Rd Nat
  | _, _, [] => .err 30
  | i, z, c :: r =>
    if i = 9 ∧ 1 < c.toNat then .err 31
    else if 128 ≤ c.toNat then getZ (i + 1) (z + (c.toNat % 128) * 128 ^ i) r
    else if c.toNat = 0 ∧ 0 < i then .err 31
    else .ok (z + c.toNat * 128 ^ i) (i + 1)
def getN (b : Bytes) : Rd Int := match getZ 0 0 b with
  | .ok z n => .ok (zag z) n
  | .err e => .err e
theorem zig_lt {n : Int} (h1 : -9223372036854775808 ≤ n) (h2 : n < 9223372036854775808) : zig n < 18446744073709551616 := by
  unfold zig; split <;> omega
theorem zag_lt {z : Nat} (h : z < 18446744073709551616) : -9223372036854775808 ≤ zag z ∧ zag z < 9223372036854775808 := by
  unfold zag; split <;> omega
theorem putZ_len : ∀ (f z : Nat), 1 ≤ (putZ f z).length ∧ (putZ f z).length ≤ f + 1
  | 0, _ => ⟨Nat.le_refl _, Nat.le_refl _⟩
  | f + 1, z => by
    unfold putZ
    split
    · simp
    · have := putZ_len f (z / 128)
      simp only [List.length_cons]; omega
/-- What is written is read. -/
theorem get_put : ∀ (f i z acc : Nat) (x : Bytes), f + i = 9 → z < 2 * 128 ^ f → (0 < i → 0 < z) → getZ i acc (putZ f z ++ x) = .ok (acc + z * 128 ^ i) (i + (putZ f z).length)
  | 0, i, z, acc, x, hf, hz, hp => by
    have hi : i = 9 := by omega
    subst hi
    have hz : z < 2 := by simpa using hz
    have hp := hp (by omega)
    have e : z = 1 := by omega
    subst e
    show getZ 9 acc (UInt8.ofNat 1 :: x) = _
    rw [getZ, if_neg (by decide), if_neg (by decide), if_neg (by decide)]
    rfl
  | f + 1, i, z, acc, x, hf, hz, hp => by
    unfold putZ
    split
    · rename_i h
      have hn : (UInt8.ofNat z).toNat = z := by rw [UInt8.toNat_ofNat']; omega
      rw [List.singleton_append, getZ, hn, if_neg (by omega), if_neg (by omega), if_neg (by omega)]; rfl
    · rename_i h
      have hn : (UInt8.ofNat (128 + z % 128)).toNat = 128 + z % 128 := by rw [UInt8.toNat_ofNat']; omega
      have hz2 : z / 128 < 2 * 128 ^ f := by
        rw [Nat.pow_succ] at hz
        omega
      rw [List.cons_append, getZ, hn, if_neg (by omega), if_pos (by omega), get_put f (i + 1) (z / 128) _ x (by omega) hz2 (fun _ => by omega)]
      have e1 : (128 + z % 128) % 128 = z % 128 := by omega
      have e2 : acc + (128 + z % 128) % 128 * 128 ^ i + z / 128 * 128 ^ (i + 1) = acc + z * 128 ^ i := by
        rw [e1, Nat.pow_succ, Nat.mul_comm (128 ^ i) 128, ← Nat.mul_assoc, Nat.add_assoc, ← Nat.add_mul]
        congr 2
        omega
      rw [e2, List.length_cons]
      congr 1
      omega
/-- What is read would be written so. -/
theorem put_get : ∀ (b : Bytes) (f i acc w n : Nat), f + i = 9 → getZ i acc b = .ok w n → ∃ z, w = acc + z * 128 ^ i ∧ z < 2 * 128 ^ f ∧ (0 < i → 0 < z) ∧ n = i + (putZ f z).length ∧ b.take (putZ f z).length = putZ f z
  | [], f, i, acc, w, n, hf, h => by cases h
  | c :: r, f, i, acc, w, n, hf, h => by
    have hc := c.toNat_lt
    rw [getZ] at h
    split at h
    · cases h
    rename_i h1
    split at h
    · rename_i h2
      obtain ⟨g, rfl⟩ : ∃ g, f = g + 1 := ⟨f - 1, by omega⟩
      obtain ⟨z, e1, e2, e3, e4, e5⟩ := put_get r g (i + 1) _ w n (by omega) h
      have hz := e3 (by omega)
      have hp : putZ (g + 1) (c.toNat % 128 + z * 128) = c :: putZ g z := by
        rw [putZ, if_neg (by omega)]
        congr 1
        · apply UInt8.toNat_inj.1
          rw [UInt8.toNat_ofNat']; omega
        · congr 1; omega
      refine ⟨c.toNat % 128 + z * 128, ?_, ?_, fun _ => by omega, ?_, ?_⟩
      · rw [e1, Nat.pow_succ, Nat.add_mul, Nat.mul_assoc z, Nat.mul_comm 128, Nat.add_assoc]
      · rw [Nat.pow_succ]; omega
      · rw [hp, e4, List.length_cons]; omega
      · rw [hp, List.length_cons, List.take_succ_cons, e5]
    · rename_i h2
      split at h
      · cases h
      rename_i h3
      cases h
      have hp : putZ f c.toNat = [c] := by
        cases f with
        | zero =>
          show [UInt8.ofNat c.toNat] = _
          rw [UInt8.ofNat_toNat]
        | succ f =>
          rw [putZ, if_pos (by omega), UInt8.ofNat_toNat]
      refine ⟨c.toNat, rfl, ?_, fun hi => by omega, by rw [hp]; rfl, by rw [hp]; rfl⟩
      cases f with
      | zero =>
        have : i = 9 := by omega
        subst this
        rw [Nat.pow_zero]; omega
      | succ f =>
        have : 1 ≤ 128 ^ f := Nat.pow_pos (by omega)
        rw [Nat.pow_succ]; omega
/-- Less of it ends too early. -/
theorem get_short : ∀ (b : Bytes) (i acc w n m : Nat), getZ i acc b = .ok w n → i + m < n → getZ i acc (b.take m) = .err 30
  | [], i, acc, w, n, m, h, hm => by cases h
  | c :: r, i, acc, w, n, m, h, hm => by
    rw [getZ] at h
    split at h
    · cases h
    rename_i h1
    cases m with
    | zero => rfl
    | succ m =>
      rw [List.take_succ_cons, getZ, if_neg h1]
      split at h
      · rename_i h2
        rw [if_pos h2]
        exact get_short r (i + 1) _ w n m h (by omega)
      · rename_i h2
        split at h
        · cases h
        · cases h; omega
end Go.Proofs.YtgdgebmlcgohhaaGreatDoor.F
/-! ## Package wire, and the document's: a number is written. -/
namespace Go.Proofs.YtgdgebmlcgohhaaGreatDoor.F
open Go Go.VC Go.Proofs
set_option linter.unusedSimpArgs false
set_option linter.unusedVariables false
set_option maxRecDepth 100000
attribute [local irreducible] CallsH RunsTo PureTo

variable {S F G : Nat → Prop} {h0 h h1 : Heap} {L R L' : List A} {a b : Option Addr} {l c l2 c2 : Nat} {bs cs : List UInt8}
theorem und30 : Tryz.prog.underlying 36 = some (.slice 5) := by kernel_rfl
theorem T30 : SlTy Tryz.prog 36 5 1 1 (.int .u8 0) := ⟨und30, by kernel_rfl, rfl, by omega, by omega⟩
abbrev BV (a : Option Addr) (l c : Nat) (bs : List UInt8) : A := A.vec 5 1 a l c (bytesV bs)
theorem byteV_of (m : Nat) : byteV (UInt8.ofNat m) = .int .u8 ((m : Int) % 256) := by
  simp only [byteV, UInt8.toNat_ofNat']
  congr 1
theorem or128 (z : Nat) : bitsOp .or .u8 ((z : Int) % 256) 128 = ((128 + z % 128 : Nat) : Int) := by
  have key : ∀ x : Fin 256, IntKind.u8.wrap ((BitVec.ofInt 8 (x.val : Int) ||| BitVec.ofInt 8 128).toNat : Int) = ((128 + x.val % 128 : Nat) : Int) := by decide +kernel
  have := key ⟨z % 256, by omega⟩
  show IntKind.u8.wrap ((BitVec.ofInt 8 _ ||| BitVec.ofInt 8 _).toNat : Int) = _
  have e : ((z : Int) % 256) = ((z % 256 : Nat) : Int) := by omega
  rw [e, this]
  simp only
  omega
theorem ofInt64 {a : Int} {n : Nat} (h : a = n) (hn : n < 18446744073709551616) : (BitVec.ofInt 64 a).toNat = n := by
  subst h
  rw [BitVec.toNat_ofInt]; omega
theorem xor_zig {n : Int} (h1 : -9223372036854775808 ≤ n) (h2 : n < 9223372036854775808) :
    bitsOp .xor .u64 (IntKind.u64.wrap (IntKind.u64.wrap n * 2 ^ (min (Int.toNat 1) (IntKind.bits .u64)))) (IntKind.u64.wrap (Int.fdiv n (2 ^ (min (Int.toNat 63) (IntKind.bits .i64))))) = (zig n : Int) := by
  have e1 : (2 : Int) ^ (min (Int.toNat 1) (IntKind.bits .u64)) = 2 := rfl
  have e2 : (2 : Int) ^ (min (Int.toNat 63) (IntKind.bits .i64)) = 9223372036854775808 := rfl
  rw [e1, e2]
  show IntKind.u64.wrap ((BitVec.ofInt 64 _ ^^^ BitVec.ofInt 64 _).toNat : Int) = _
  have hz := zig_lt h1 h2
  rw [Int.fdiv_eq_ediv_of_nonneg _ (by omega)]
  by_cases h : 0 ≤ n
  · have e3 : n / 9223372036854775808 = 0 := by omega
    have e4 : IntKind.u64.wrap 0 = 0 := by rw [wrap_u64]; omega
    have e5 : IntKind.u64.wrap (IntKind.u64.wrap n * 2) = ((zig n : Nat) : Int) := by
      rw [wrap_u64, wrap_u64]; unfold zig; rw [if_pos h]; omega
    have e6 : BitVec.ofInt 64 0 = 0#64 := rfl
    rw [e3, e4, e5, e6, BitVec.xor_zero, ofInt64 rfl hz, wrap_u64]; omega
  · have e3 : n / 9223372036854775808 = -1 := by omega
    have e4 : IntKind.u64.wrap (-1) = 18446744073709551615 := by rw [wrap_u64]; omega
    have e6 : BitVec.ofInt 64 18446744073709551615 = BitVec.allOnes 64 := rfl
    have hx : IntKind.u64.wrap (IntKind.u64.wrap n * 2) = ((18446744073709551615 - zig n : Nat) : Int) := by
      rw [wrap_u64, wrap_u64]; unfold zig; rw [if_neg h]; omega
    rw [e3, e4, e6, hx, BitVec.xor_allOnes, BitVec.toNat_not, ofInt64 rfl (by omega), wrap_u64]; omega
/-- One byte more. -/
theorem app_byte {x : UInt8} {bb : Nat} (k : St S h0 h (A.blk bb #[byteV x] 5 :: BV a l c bs :: R)) (hb : l + 1 ≤ 140737488355328) {K : KV}
    (q : ∀ a' c' h', St S h0 h' (BV a' (l + 1) c' (bs ++ [x]) :: R) → K (.slice a' (l + 1) c') h') : RunsTo Tryz.prog (Builtin.append_ #[36, 36] 36 #[.slice a l c, .slice (some ⟨bb, 0, none⟩) 1 1]) h K := by
  have hsl : Sl h (some ⟨bb, 0, none⟩) (bytesV [x]) := k.slB (b := bb)
  refine k.pull1.app T30 und30 (by simp) (Src.slice hsl rfl) (oneC_bytes [x]) (by omega) fun a' c' h' k => q a' c' h' ?_
  rw [← bytesV_app] at k
  exact k.pull1.drop
theorem putInt_spec {n : Int} (k : Holds [BV a l c bs] F h) (h1 : -9223372036854775808 ≤ n) (h2 : n < 9223372036854775808) (hb : l ≤ 140737488355000) :
    CallsH Tryz.prog 132 #[.slice a l c, .int .i64 n] h (fun v h' => ∃ a' c', v = .slice a' (l + (putN n).length) c' ∧ St F h h' [BV a' (l + (putN n).length) c' (bs ++ putN n)]) := by
  refine vf132 _ _ _ _ h _ ?_
  unfold F132
  rw [xor_zig h1 h2]
  have k := St.start k
  have hz := zig_lt h1 h2
  refine ⟨by omega, by omega, fun m hh b' lb cb z_ => ∃ (z f : Nat) (dn : Bytes), z_ = z ∧ z = m ∧ z < 2 * 128 ^ f ∧ f + dn.length = 9 ∧ dn ++ putZ f z = putN n ∧ lb = l + dn.length ∧ St F h hh [BV b' lb cb (bs ++ dn)], ⟨_, zig n, 9, [], rfl, rfl, by omega, rfl, rfl, rfl, by simpa using k⟩, ?_⟩
  clear k
  rintro m hh _ b' lb cb z_ ⟨z, f, dn, rfl, rfl, hzf, hf, hdn, rfl, k⟩
  refine cond_split (fun hc => ?_) (fun hc => ?_)
  · have hz : 128 ≤ z := by
      have : (z : Int) ≥ 128 := of_decide_eq_true hc
      omega
    obtain ⟨g, rfl⟩ : ∃ g, f = g + 1 := by
      cases f with
      | zero => simp at hzf; omega
      | succ g => exact ⟨g, rfl⟩
    have eb : (.int .u8 (bitsOp .or .u8 (IntKind.u8.wrap (z : Int)) 128) : Value) = byteV (UInt8.ofNat (128 + z % 128)) := by
      rw [wrap_u8, or128, byteV_of]
      congr 1; omega
    rw [eb]
    refine k.vnew fun b8 h9 k => app_byte k (by omega) fun a12 c12 h11 k => ⟨_, _, _, rfl, by omega, z / 128, by omega, z / 128, g, dn ++ [UInt8.ofNat (128 + z % 128)], ?_, rfl, ?_, by simp; omega, ?_, by simp; omega, ?_⟩
    · rw [Int.fdiv_eq_ediv_of_nonneg _ (Int.pow_nonneg (by omega))]
      show (z : Int) / 128 = _
      omega
    · rw [Nat.pow_succ] at hzf; omega
    · rw [← hdn, List.append_assoc]
      conv => rhs; rw [putZ, if_neg (by omega)]
      rfl
    · rw [← List.append_assoc]; exact k
  · have hz : z < 128 := by
      have : ¬ (z : Int) ≥ 128 := of_decide_eq_false hc
      omega
    have ep : putZ f z = [UInt8.ofNat z] := by
      cases f with
      | zero => rfl
      | succ f => rw [putZ, if_pos hz]
    have eb : (.int .u8 (IntKind.u8.wrap (z : Int)) : Value) = byteV (UInt8.ofNat z) := by rw [wrap_u8, byteV_of]
    rw [eb]
    have hlen : (putN n).length = dn.length + 1 := by rw [← hdn, ep]; simp
    refine k.vnew fun b13 h14 k => app_byte k (by omega) fun a17 c17 h16 k => ⟨_, _, _, rfl, a17, c17, by rw [hlen]; rfl, ?_⟩
    rw [hlen, ← hdn, ep, ← List.append_assoc]
    exact k
theorem putN_len (n : Int) : 1 ≤ (putN n).length ∧ (putN n).length ≤ 10 := putZ_len 9 (zig n)
theorem PutInt_spec {n : Int} (h1 : -9223372036854775808 ≤ n) (h2 : n < 9223372036854775808) :
    CallsH Tryz.prog 118 #[.int .i64 n] h (fun v h' => ∃ a' c', v = .slice a' (putN n).length c' ∧ St none_ h h' [BV a' (putN n).length c' (putN n)]) := by
  refine vf118 _ h _ ?_
  unfold F118
  have k := ((St.fresh h).vnil 5 (sz := 1) (by omega)).re (y := BV none 0 0 []) rfl
  obtain ⟨F, G, k1, kG, d, hF, back⟩ := k.frameA
  refine CallsH.mono (putInt_spec k1 h1 h2 (by omega)) ?_
  rintro _ h2 ⟨a', c', rfl, k2⟩
  have k := back k2
  rw [Nat.zero_add, List.nil_append] at k
  exact ⟨_, _, _, rfl, a', c', by rw [Nat.zero_add], k⟩
end Go.Proofs.YtgdgebmlcgohhaaGreatDoor.F
/-! ## Package wire: a number is read. -/
namespace Go.Proofs.YtgdgebmlcgohhaaGreatDoor.F
open Go Go.VC Go.Proofs
set_option linter.unusedSimpArgs false
set_option linter.unusedVariables false
set_option maxRecDepth 100000
attribute [local irreducible] CallsH RunsTo PureTo

variable {S F G : Nat → Prop} {h0 h h1 : Heap} {L R L' : List A} {a b : Option Addr} {l c l2 c2 : Nat} {bs cs : List UInt8}
theorem and127 (x : UInt8) : bitsOp .and .u8 (x.toNat : Int) 127 = ((x.toNat % 128 : Nat) : Int) := by
  have key : ∀ x : Fin 256, IntKind.u8.wrap ((BitVec.ofInt 8 (x.val : Int) &&& BitVec.ofInt 8 127).toNat : Int) = ((x.val % 128 : Nat) : Int) := by decide +kernel
  exact key ⟨x.toNat, x.toNat_lt⟩
theorem or_sum {z x i : Nat} (hi : i ≤ 9) (hz : z < 128 ^ i) (hx : x * 128 ^ i < 18446744073709551616) : bitsOp .or .u64 (z : Int) ((x * 128 ^ i : Nat) : Int) = ((z + x * 128 ^ i : Nat) : Int) := by
  show IntKind.u64.wrap ((BitVec.ofInt 64 _ ||| BitVec.ofInt 64 _).toNat : Int) = _
  have hp : 128 ^ i = 2 ^ (7 * i) := by rw [Nat.pow_mul]
  have h9 : 128 ^ i ≤ 128 ^ 9 := Nat.pow_le_pow_right (by omega) hi
  have e9 : (128 : Nat) ^ 9 = 9223372036854775808 := rfl
  rw [BitVec.toNat_or, ofInt64 rfl (by omega), ofInt64 rfl hx, wrap_u64]
  have e : z ||| x * 128 ^ i = z + x * 128 ^ i := by
    rw [hp] at hz ⊢
    rw [← Nat.shiftLeft_eq, Nat.or_comm, ← Nat.shiftLeft_add_eq_or_of_lt hz, Nat.add_comm]
  rw [e]
  have hlt : z + x * 128 ^ i < 18446744073709551616 := by
    rw [← e]
    have h1 : z < 2 ^ 64 := by omega
    have h2 : x * 128 ^ i < 2 ^ 64 := hx
    exact Nat.or_lt_two_pow h1 h2
  omega
theorem zag_ops {z : Nat} (h : z < 18446744073709551616) : bitsOp .xor .i64 (IntKind.i64.wrap (Int.fdiv (z : Int) (2 ^ (min (Int.toNat 1) (IntKind.bits .u64))))) (IntKind.i64.wrap (0 - IntKind.i64.wrap (bitsOp .and .u64 (z : Int) 1))) = zag z := by
  have e1 : (2 : Int) ^ (min (Int.toNat 1) (IntKind.bits .u64)) = 2 := rfl
  have e2 : bitsOp .and .u64 (z : Int) 1 = ((z % 2 : Nat) : Int) := by
    show IntKind.u64.wrap ((BitVec.ofInt 64 _ &&& BitVec.ofInt 64 1).toNat : Int) = _
    have e : (BitVec.ofInt 64 1).toNat = 1 := rfl
    rw [BitVec.toNat_and, ofInt64 rfl h, e, Nat.and_one_is_mod, wrap_u64]; omega
  rw [e1, e2, Int.fdiv_eq_ediv_of_nonneg _ (by omega), wrap_id (n := (z : Int) / 2) (by omega) (by omega), wrap_id (n := ((z % 2 : Nat) : Int)) (by omega) (by omega), wrap_id (n := 0 - ((z % 2 : Nat) : Int)) (by omega) (by omega)]
  show IntKind.i64.wrap ((BitVec.ofInt 64 _ ^^^ BitVec.ofInt 64 _).toNat : Int) = _
  have ez : ((z : Int) / 2) = ((z / 2 : Nat) : Int) := by omega
  rw [ez]
  unfold zag
  by_cases hz : z % 2 = 0
  · rw [if_pos hz, hz]
    have e6 : BitVec.ofInt 64 (0 - ((0 : Nat) : Int)) = 0#64 := rfl
    rw [e6, BitVec.xor_zero, ofInt64 rfl (by omega), wrap_id (by omega) (by omega)]
  · have h1 : z % 2 = 1 := by omega
    rw [if_neg hz, h1]
    have e6 : BitVec.ofInt 64 (0 - ((1 : Nat) : Int)) = BitVec.allOnes 64 := rfl
    rw [e6, BitVec.xor_allOnes, BitVec.toNat_not, ofInt64 rfl (by omega)]
    have e7 : ((2 ^ 64 - 1 - z / 2 : Nat) : Int) = 18446744073709551615 - ((z / 2 : Nat) : Int) := by omega
    rw [e7]
    simp only [IntKind.wrap, IntKind.signed, IntKind.bits]
    simp
    omega
def rdV (r : Rd Int) : Value := match r with
  | .ok x n => .tuple #[.int .i64 x, .int .i64 n, .int .i64 0]
  | .err e => .tuple #[.int .i64 0, .int .i64 0, .int .i64 e]
theorem pow7 (i : Nat) (hi : i ≤ 9) : (2 : Int) ^ (min (Int.toNat (IntKind.i64.wrap (7 * (i : Int)))) (IntKind.bits .u64)) = ((128 ^ i : Nat) : Int) := by
  rw [wrap_id (by omega) (by omega)]
  have e : min (Int.toNat (7 * (i : Int))) (IntKind.bits .u64) = 7 * i := by
    show min _ 64 = _
    omega
  rw [e]
  have : (128 : Nat) ^ i = 2 ^ (7 * i) := by rw [Nat.pow_mul]
  rw [this]; simp
theorem int_spec (hs : Sl h a (bytesV bs)) (hl : bs.length = l) (hb : l < 9223372036854775807) : CallsH Tryz.prog 115 #[.slice a l c] h (fun v h' => v = rdV (getN bs) ∧ h' = h) := by
  refine vf115 _ _ _ h _ ?_
  unfold F115
  refine ⟨fun m hh _ _ _ z_ i => ∃ j acc : Nat, i = j ∧ j ≤ l ∧ j ≤ 9 ∧ m = l - j ∧ hh = h ∧ z_ = acc ∧ acc < 128 ^ j ∧ getZ j acc (bs.drop j) = getZ 0 0 bs, ⟨_, 0, 0, rfl, by omega, by omega, rfl, rfl, rfl, by simp, rfl⟩, ?_⟩
  rintro m hh _ _ _ _ z_ i ⟨j, acc, rfl, hj, hj9, rfl, rfl, rfl, hacc, hg⟩
  refine cond_split (fun hc => ?_) (fun hc => ?_)
  · have hjl : j < l := Int.ofNat_lt.1 (of_decide_eq_true hc)
    refine hs.one (f := byteV) hl (by omega) (by omega) fun ad x hx hcx => ⟨_, hcx, ?_⟩
    rw [Int.toNat_natCast] at hx
    have hx8 := x.toNat_lt
    have hd : bs.drop j = x :: bs.drop (j + 1) := by
      obtain ⟨hlt, he⟩ := List.getElem?_eq_some_iff.1 hx
      rw [List.drop_eq_getElem_cons hlt, he]
    rw [hd, getZ] at hg
    rw [pow7 j hj9, and127]
    refine cond_split (fun h9 => cond_split (fun h1 => ?_) (fun h1 => ?_)) (fun h9 => ?_)
    · have h9 : j = 9 := by
        have : (j : Int) = 9 := by simpa using h9
        omega
      have h1 : 1 < x.toNat := by
        have : (x.toNat : Int) > 1 := of_decide_eq_true h1
        omega
      rw [if_pos ⟨h9, h1⟩] at hg
      refine ⟨?_, rfl⟩
      unfold getN
      rw [← hg]; rfl
    · have h1 : ¬ 1 < x.toNat := by
        have : ¬ (x.toNat : Int) > 1 := of_decide_eq_false h1
        omega
      have h91 : j = 9 → ¬ 1 < x.toNat := fun _ => h1
      refine ⟨by rw [wrap_id (by omega) (by omega)]; omega, ?_⟩
      have hp9 : 128 ^ j ≤ 128 ^ 9 := Nat.pow_le_pow_right (by omega) hj9
      have e9 : (128 : Nat) ^ 9 = 9223372036854775808 := rfl
      have hxm : x.toNat % 128 * 128 ^ j < 18446744073709551616 := by
        by_cases h9 : j = 9
        · subst h9
          have := h91 rfl
          have e2 : x.toNat % 128 ≤ 1 := by omega
          have := Nat.mul_le_mul_right (128 ^ 9) e2
          omega
        · have : 128 ^ j ≤ 128 ^ 8 := Nat.pow_le_pow_right (by omega) (by omega)
          have e8 : (128 : Nat) ^ 8 = 72057594037927936 := rfl
          have h1 : x.toNat % 128 ≤ 127 := by omega
          have := Nat.mul_le_mul h1 this
          omega
      have ew : IntKind.u64.wrap (IntKind.u64.wrap ((x.toNat % 128 : Nat) : Int) * ((128 ^ j : Nat) : Int)) = ((x.toNat % 128 * 128 ^ j : Nat) : Int) := by
        rw [wrap_u64, wrap_u64, Int.emod_eq_of_lt (a := ((x.toNat % 128 : Nat) : Int)) (by omega) (by omega), ← Int.natCast_mul]
        omega
      rw [ew, or_sum hj9 hacc hxm]
      have hsum : acc + x.toNat % 128 * 128 ^ j < 128 ^ (j + 1) := by
        have h1 : x.toNat % 128 ≤ 127 := by omega
        have := Nat.mul_le_mul_right (128 ^ j) h1
        rw [Nat.pow_succ]; omega
      have h64 : acc + x.toNat % 128 * 128 ^ j < 18446744073709551616 := by
        by_cases h9 : j = 9
        · subst h9
          have := h91 rfl
          have e2 : x.toNat % 128 ≤ 1 := by omega
          have := Nat.mul_le_mul_right (128 ^ 9) e2
          omega
        · have : 128 ^ (j + 1) ≤ 128 ^ 9 := Nat.pow_le_pow_right (by omega) (by omega)
          omega
      rw [zag_ops h64]
      have hn1 : ¬ (j = 9 ∧ 1 < x.toNat) := fun h => by have := h91 h.1; omega
      rw [if_neg hn1] at hg
      refine cond_split (fun hc => ?_) (fun hc => ?_)
      · have h128 : 128 ≤ x.toNat := by
          have : (x.toNat : Int) ≥ 128 := of_decide_eq_true hc
          omega
        rw [if_pos h128] at hg
        refine ⟨l - (j + 1), by omega, j + 1, acc + x.toNat % 128 * 128 ^ j, by rw [wrap_id (by omega) (by omega)]; omega, hjl, ?_, rfl, rfl, rfl, hsum, hg⟩
        by_cases h9 : j = 9
        · have := h91 h9
          omega
        · omega
      · have h128 : x.toNat < 128 := by
          have : ¬ (x.toNat : Int) ≥ 128 := of_decide_eq_false hc
          omega
        rw [if_neg (by omega)] at hg
        have em : x.toNat % 128 = x.toNat := Nat.mod_eq_of_lt h128
        rw [em]
        have ei : IntKind.i64.wrap ((j : Int) + 1) = ((j + 1 : Nat) : Int) := by rw [wrap_id (by omega) (by omega)]; omega
        rw [ei]
        have okk : ¬ (x.toNat = 0 ∧ 0 < j) → (Value.tuple #[.int .i64 (zag (acc + x.toNat * 128 ^ j)), .int .i64 ((j + 1 : Nat) : Int), .int .i64 0]) = rdV (getN bs) := fun hne => by
          rw [if_neg hne] at hg
          unfold getN
          rw [← hg]; rfl
        refine cond_split (fun hc0 => cond_split (fun hcj => ?_) (fun hcj => ?_)) (fun hc0 => ?_)
        · have h0 : x.toNat = 0 := by
            have : (x.toNat : Int) = 0 := by simpa using hc0
            omega
          have hjp : 0 < j := by
            have : (j : Int) > 0 := of_decide_eq_true hcj
            omega
          rw [if_pos ⟨h0, hjp⟩] at hg
          refine ⟨?_, rfl⟩
          unfold getN
          rw [← hg]; rfl
        · have hjp : ¬ 0 < j := by
            have : ¬ (j : Int) > 0 := of_decide_eq_false hcj
            omega
          exact ⟨by omega, okk (fun h => hjp h.2), rfl⟩
        · have h0 : x.toNat ≠ 0 := by
            have : (x.toNat : Int) ≠ 0 := by simpa using hc0
            omega
          exact ⟨by omega, okk (fun h => h0 h.1), rfl⟩
    · have h9 : j ≠ 9 := by
        have : (j : Int) ≠ 9 := by simpa using h9
        omega
      have h91 : j = 9 → ¬ 1 < x.toNat := fun h => absurd h h9
      refine ⟨by rw [wrap_id (by omega) (by omega)]; omega, ?_⟩
      have hp9 : 128 ^ j ≤ 128 ^ 9 := Nat.pow_le_pow_right (by omega) hj9
      have e9 : (128 : Nat) ^ 9 = 9223372036854775808 := rfl
      have hxm : x.toNat % 128 * 128 ^ j < 18446744073709551616 := by
        by_cases h9 : j = 9
        · subst h9
          have := h91 rfl
          have e2 : x.toNat % 128 ≤ 1 := by omega
          have := Nat.mul_le_mul_right (128 ^ 9) e2
          omega
        · have : 128 ^ j ≤ 128 ^ 8 := Nat.pow_le_pow_right (by omega) (by omega)
          have e8 : (128 : Nat) ^ 8 = 72057594037927936 := rfl
          have h1 : x.toNat % 128 ≤ 127 := by omega
          have := Nat.mul_le_mul h1 this
          omega
      have ew : IntKind.u64.wrap (IntKind.u64.wrap ((x.toNat % 128 : Nat) : Int) * ((128 ^ j : Nat) : Int)) = ((x.toNat % 128 * 128 ^ j : Nat) : Int) := by
        rw [wrap_u64, wrap_u64, Int.emod_eq_of_lt (a := ((x.toNat % 128 : Nat) : Int)) (by omega) (by omega), ← Int.natCast_mul]
        omega
      rw [ew, or_sum hj9 hacc hxm]
      have hsum : acc + x.toNat % 128 * 128 ^ j < 128 ^ (j + 1) := by
        have h1 : x.toNat % 128 ≤ 127 := by omega
        have := Nat.mul_le_mul_right (128 ^ j) h1
        rw [Nat.pow_succ]; omega
      have h64 : acc + x.toNat % 128 * 128 ^ j < 18446744073709551616 := by
        by_cases h9 : j = 9
        · subst h9
          have := h91 rfl
          have e2 : x.toNat % 128 ≤ 1 := by omega
          have := Nat.mul_le_mul_right (128 ^ 9) e2
          omega
        · have : 128 ^ (j + 1) ≤ 128 ^ 9 := Nat.pow_le_pow_right (by omega) (by omega)
          omega
      rw [zag_ops h64]
      have hn1 : ¬ (j = 9 ∧ 1 < x.toNat) := fun h => by have := h91 h.1; omega
      rw [if_neg hn1] at hg
      refine cond_split (fun hc => ?_) (fun hc => ?_)
      · have h128 : 128 ≤ x.toNat := by
          have : (x.toNat : Int) ≥ 128 := of_decide_eq_true hc
          omega
        rw [if_pos h128] at hg
        refine ⟨l - (j + 1), by omega, j + 1, acc + x.toNat % 128 * 128 ^ j, by rw [wrap_id (by omega) (by omega)]; omega, hjl, ?_, rfl, rfl, rfl, hsum, hg⟩
        by_cases h9 : j = 9
        · have := h91 h9
          omega
        · omega
      · have h128 : x.toNat < 128 := by
          have : ¬ (x.toNat : Int) ≥ 128 := of_decide_eq_false hc
          omega
        rw [if_neg (by omega)] at hg
        have em : x.toNat % 128 = x.toNat := Nat.mod_eq_of_lt h128
        rw [em]
        have ei : IntKind.i64.wrap ((j : Int) + 1) = ((j + 1 : Nat) : Int) := by rw [wrap_id (by omega) (by omega)]; omega
        rw [ei]
        have okk : ¬ (x.toNat = 0 ∧ 0 < j) → (Value.tuple #[.int .i64 (zag (acc + x.toNat * 128 ^ j)), .int .i64 ((j + 1 : Nat) : Int), .int .i64 0]) = rdV (getN bs) := fun hne => by
          rw [if_neg hne] at hg
          unfold getN
          rw [← hg]; rfl
        refine cond_split (fun hc0 => cond_split (fun hcj => ?_) (fun hcj => ?_)) (fun hc0 => ?_)
        · have h0 : x.toNat = 0 := by
            have : (x.toNat : Int) = 0 := by simpa using hc0
            omega
          have hjp : 0 < j := by
            have : (j : Int) > 0 := of_decide_eq_true hcj
            omega
          rw [if_pos ⟨h0, hjp⟩] at hg
          refine ⟨?_, rfl⟩
          unfold getN
          rw [← hg]; rfl
        · have hjp : ¬ 0 < j := by
            have : ¬ (j : Int) > 0 := of_decide_eq_false hcj
            omega
          exact ⟨by omega, okk (fun h => hjp h.2), rfl⟩
        · have h0 : x.toNat ≠ 0 := by
            have : (x.toNat : Int) ≠ 0 := by simpa using hc0
            omega
          exact ⟨by omega, okk (fun h => h0 h.1), rfl⟩
  · have hjl : j = l := by
      have : ¬ (j : Int) < l := of_decide_eq_false hc
      omega
    subst hjl
    rw [List.drop_of_length_le (by omega), getZ] at hg
    refine ⟨?_, rfl⟩
    unfold getN
    rw [← hg]; rfl
end Go.Proofs.YtgdgebmlcgohhaaGreatDoor.F
/-! ## Package wire: forms, values, events, batches, in plain Lean. -/
namespace Go.Proofs.YtgdgebmlcgohhaaGreatDoor.F
open Go Go.VC
set_option linter.unusedSimpArgs false
set_option linter.unusedVariables false

variable {α β γ : Type}
def bindR (f : Bytes → Rd α) (g : α → Bytes → Rd β) (b : Bytes) : Rd β := match f b with
  | .ok x n => match g x (b.drop n) with
    | .ok y m => .ok y (n + m)
    | .err e => .err e
  | .err e => .err e
def retR (x : α) (_ : Bytes) : Rd α := .ok x 0
def failR (e : Int) (_ : Bytes) : Rd α := .err e
/-- A form: what is written is read, what is read would be written so, less of it ends too early. -/
structure Form (f : Bytes → Rd α) (put : α → Bytes) (P : α → Prop) : Prop where
  gp : ∀ x y, P x → f (put x ++ y) = .ok x (put x).length
  pg : ∀ b x n, f b = .ok x n → P x ∧ n = (put x).length ∧ b.take n = put x
  sh : ∀ b x n m, f b = .ok x n → m < n → f (b.take m) = .err 30
theorem Form.le {f : Bytes → Rd α} {p : α → Bytes} {P : α → Prop} (k : Form f p P) {b : Bytes} {x : α} {n : Nat} (h : f b = .ok x n) : n ≤ b.length := by
  obtain ⟨_, h2, h3⟩ := k.pg b x n h
  have := congrArg List.length h3
  rw [List.length_take] at this; omega
theorem Form.split {f : Bytes → Rd α} {p : α → Bytes} {P : α → Prop} (k : Form f p P) {b : Bytes} {x : α} {n : Nat} (h : f b = .ok x n) : b = p x ++ b.drop n := by
  obtain ⟨_, _, h3⟩ := k.pg b x n h
  conv => lhs; rw [← List.take_append_drop n b, h3]
theorem Form.more {f : Bytes → Rd α} {p : α → Bytes} {P : α → Prop} (k : Form f p P) {b : Bytes} {x : α} {n m : Nat} (h : f b = .ok x n) (hm : n ≤ m) : f (b.take m) = .ok x n := by
  obtain ⟨h1, h2, h3⟩ := k.pg b x n h
  have e : b.take m = p x ++ (b.drop n).take (m - n) := by
    conv => lhs; rw [k.split h]
    rw [List.take_append, ← h2, List.take_of_length_le (by omega)]
  rw [e, k.gp x _ h1, ← h2]
theorem Form.bind {f : Bytes → Rd α} {g : α → Bytes → Rd β} {p : α → Bytes} {P : α → Prop} {q : α → β → Bytes} {Q : α → β → Prop} (key : β → α) (hf : Form f p P) (hg : ∀ x, P x → Form (g x) (q x) (Q x)) (hk : ∀ x y, P x → Q x y → key y = x) :
    Form (bindR f g) (fun y => p (key y) ++ q (key y) y) (fun y => P (key y) ∧ Q (key y) y) where
  gp y z h := by
    unfold bindR
    rw [List.append_assoc, hf.gp _ _ h.1]
    simp only [List.drop_left]
    rw [(hg _ h.1).gp _ _ h.2, List.length_append]
  pg b y n h := by
    unfold bindR at h
    split at h
    · rename_i x m hx
      split at h
      · rename_i y' m' hy
        cases h
        obtain ⟨h1, h2, h3⟩ := hf.pg _ _ _ hx
        obtain ⟨h4, h5, h6⟩ := (hg x h1).pg _ _ _ hy
        have e := hk x y h1 h4
        rw [e]
        refine ⟨⟨h1, h4⟩, by rw [List.length_append, h2, h5], ?_⟩
        rw [List.take_add, h3, h6]
      · cases h
    · cases h
  sh b y n k h hkn := by
    unfold bindR at h
    split at h
    · rename_i x m hx
      split at h
      · rename_i y' m' hy
        cases h
        obtain ⟨h1, h2, h3⟩ := hf.pg _ _ _ hx
        unfold bindR
        by_cases hkm : k < m
        · rw [hf.sh _ _ _ _ hx hkm]
        · rw [hf.more hx (by omega)]
          simp only
          have e : (b.take k).drop m = (b.drop m).take (k - m) := by rw [List.drop_take]
          rw [e, (hg x h1).sh _ _ _ _ hy (by omega)]
      · cases h
    · cases h
theorem Form.congr {f : Bytes → Rd α} {p p' : α → Bytes} {P P' : α → Prop} (k : Form f p P) (h : ∀ x, P x ↔ P' x) (e : ∀ x, P x → p x = p' x) : Form f p' P' where
  gp x y hx := by rw [← e x ((h x).2 hx)]; exact k.gp x y ((h x).2 hx)
  pg b x n hb := by
    obtain ⟨h1, h2, h3⟩ := k.pg b x n hb
    rw [← e x h1]; exact ⟨(h x).1 h1, h2, h3⟩
  sh := k.sh
theorem Form.ret (x : α) : Form (retR x) (fun _ => []) (fun y => y = x) where
  gp y z h := by subst h; rfl
  pg b y n h := by cases h; exact ⟨rfl, rfl, rfl⟩
  sh b y n m h hm := by cases h; omega
theorem Form.fail (e : Int) (p : α → Bytes) : Form (failR e) p (fun _ => False) where
  gp y z h := h.elim
  pg b y n h := by cases h
  sh b y n m h hm := by cases h
/-! ### Numbers, texts -/
theorem Form.num : Form getN putN (fun n => -9223372036854775808 ≤ n ∧ n < 9223372036854775808) where
  gp n y h := by
    unfold getN putN
    have hz := zig_lt h.1 h.2
    rw [get_put 9 0 (zig n) 0 y rfl (by omega) (fun h => by omega)]
    simp only [Nat.zero_add, Nat.pow_zero, Nat.mul_one, zag_zig]
  pg b n m h := by
    unfold getN at h
    split at h
    · rename_i z k hz
      cases h
      obtain ⟨z', e1, e2, _, e4, e5⟩ := put_get b 9 0 0 z m rfl hz
      have e1 : z = z' := by omega
      subst e1
      have : putN (zag z) = putZ 9 z := by unfold putN; rw [zig_zag]
      rw [this]
      exact ⟨zag_lt (by omega), by omega, by rw [e4, Nat.zero_add]; exact e5⟩
    · cases h
  sh b n k m h hm := by
    unfold getN at h
    split at h
    · rename_i z k hz
      cases h
      unfold getN
      rw [get_short b 0 0 z _ m hz (by omega)]
    · cases h
def numb (lo hi : Int) (b : Bytes) : Rd Int := match getN b with
  | .ok x n => if x < lo ∨ hi < x then .err 31 else .ok x n
  | .err e => .err e
theorem Form.numb {lo hi : Int} (h1 : -9223372036854775808 ≤ lo) (h2 : hi < 9223372036854775808) : Form (numb lo hi) putN (fun n => lo ≤ n ∧ n ≤ hi) where
  gp n y h := by
    unfold F.numb
    rw [Form.num.gp n y ⟨by omega, by omega⟩]
    simp only
    rw [if_neg (by omega)]
  pg b n m h := by
    unfold F.numb at h
    split at h
    · rename_i x k hx
      split at h
      · cases h
      · cases h
        obtain ⟨e1, e2, e3⟩ := Form.num.pg _ _ _ hx
        exact ⟨by omega, e2, e3⟩
    · cases h
  sh b n k m h hm := by
    unfold F.numb at h
    split at h
    · rename_i x k' hx
      split at h
      · cases h
      · cases h
        unfold F.numb
        rw [Form.num.sh _ _ _ _ hx hm]
    · cases h
def takeB (n : Nat) (b : Bytes) : Rd Bytes := if b.length < n then .err 30 else .ok (b.take n) n
theorem Form.takeB (n : Nat) : Form (takeB n) id (fun s => s.length = n) where
  gp s y h := by
    unfold F.takeB
    subst h
    rw [if_neg (by simp), id, List.take_left]
  pg b s m h := by
    unfold F.takeB at h
    split at h
    · cases h
    · cases h
      have : (b.take n).length = n := by rw [List.length_take]; omega
      exact ⟨this, this.symm, rfl⟩
  sh b s k m h hm := by
    unfold F.takeB at h
    split at h
    · cases h
    · cases h
      unfold F.takeB
      rw [if_pos (by rw [List.length_take]; omega)]
def oneR (lo hi : Nat) (b : Bytes) : Rd UInt8 := match b with
  | [] => .err 30
  | c :: _ => if c.toNat < lo ∨ hi < c.toNat then .err 31 else .ok c 1
theorem Form.one (lo hi : Nat) : Form (oneR lo hi) (fun c => [c]) (fun c => lo ≤ c.toNat ∧ c.toNat ≤ hi) where
  gp c y h := by
    show (if c.toNat < lo ∨ hi < c.toNat then _ else _) = _
    rw [if_neg (by omega)]; rfl
  pg b c n h := by
    unfold oneR at h
    split at h
    · cases h
    · split at h
      · cases h
      · cases h
        exact ⟨by omega, rfl, rfl⟩
  sh b c n m h hm := by
    unfold oneR at h
    split at h
    · cases h
    · split at h
      · cases h
      · cases h
        have : m = 0 := by omega
        subst this; rfl
def textR (lo hi : Int) : Bytes → Rd Bytes := bindR (numb lo hi) fun n => takeB n.toNat
def putS (s : Bytes) : Bytes := putN s.length ++ s
theorem Form.text {lo hi : Int} (h1 : 0 ≤ lo) (h2 : hi < 9223372036854775808) : Form (textR lo hi) putS (fun s => lo ≤ s.length ∧ s.length ≤ hi) := by
  have k := Form.bind (fun s : Bytes => (s.length : Int)) (Form.numb (lo := lo) (hi := hi) (by omega) h2) (g := fun n => F.takeB n.toNat) (q := fun _ => id) (Q := fun n s => s.length = n.toNat) (fun n _ => Form.takeB n.toNat) (fun n s h e => by omega)
  refine k.congr (fun s => ?_) (fun s _ => rfl)
  simp only [Int.toNat_natCast, and_true]
/-! ### Names, values -/
def isLetter (c : UInt8) : Bool := (decide (97 ≤ c.toNat) && decide (c.toNat ≤ 122)) || (decide (65 ≤ c.toNat) && decide (c.toNat ≤ 90)) || decide (c.toNat = 95)
def isDigit (c : UInt8) : Bool := decide (48 ≤ c.toNat) && decide (c.toNat ≤ 57)
def isPart (c : UInt8) : Bool := isLetter c || isDigit c
def words : List Bytes := [[80, 65, 84, 84, 69, 82, 78], [83, 69, 81], [80, 65, 82, 84, 73, 84, 73, 79, 78], [66, 89], [87, 72, 69, 82, 69], [87, 73, 84, 72, 73, 78], [82, 69, 84, 85, 82, 78], [65, 78, 68], [79, 82], [78, 79, 84], [84, 82, 85, 69], [70, 65, 76, 83, 69], [84, 89, 80, 69], [73, 78, 84], [83, 84, 82], [66, 79, 79, 76]]
def nameOk (s : Bytes) : Bool := match s with
  | [] => false
  | c :: r => decide (s.length ≤ 32) && isLetter c && s.all isPart && !words.contains s
theorem nameOk_len {s : Bytes} (h : nameOk s = true) : 1 ≤ s.length ∧ s.length ≤ 32 := by
  cases s with
  | nil => cases h
  | cons c r =>
    simp only [nameOk, Bool.and_eq_true, decide_eq_true_eq] at h
    exact ⟨by simp, h.1.1.1⟩
structure Val where
  k : Int
  n : Int
  s : Bytes
  b : Bool
deriving DecidableEq
abbrev noVal : Val := ⟨0, 0, [], false⟩
structure Ev where
  t : Bytes
  tm : Int
  vs : List Val
deriving DecidableEq
abbrev noEv : Ev := ⟨[], 0, []⟩
def validV (v : Val) : Bool :=
  if v.k = 1 then decide (v.s = []) && !v.b
  else if v.k = 2 then decide (v.n = 0) && !v.b && decide (v.s.length ≤ 256)
  else if v.k = 3 then decide (v.n = 0) && decide (v.s = [])
  else false
def rngV (v : Val) : Prop := -9223372036854775808 ≤ v.n ∧ v.n < 9223372036854775808
def okV (v : Val) : Prop := validV v = true ∧ rngV v
def encV (v : Val) : Bytes := UInt8.ofNat v.k.toNat :: (if v.k = 1 then putN v.n else if v.k = 2 then putS v.s else [if v.b then 1 else 0])
def valR : Bytes → Rd Val := bindR (oneR 1 3) fun c =>
  if c.toNat = 1 then bindR (numb (-9223372036854775808) 9223372036854775807) fun n => retR ⟨1, n, [], false⟩
  else if c.toNat = 2 then bindR (textR 0 256) fun s => retR ⟨2, 0, s, false⟩
  else bindR (oneR 0 1) fun x => retR ⟨3, 0, [], decide (x.toNat = 1)⟩
theorem u8_eq {c : UInt8} {n : Nat} (h : c.toNat = n) : c = UInt8.ofNat n := by subst h; rw [UInt8.ofNat_toNat]
theorem Form.val : Form valR encV okV := by
  have k := Form.bind (fun v : Val => UInt8.ofNat v.k.toNat) (Form.one 1 3) (g := fun c =>
      if c.toNat = 1 then bindR (F.numb (-9223372036854775808) 9223372036854775807) fun n => retR (⟨1, n, [], false⟩ : Val)
      else if c.toNat = 2 then bindR (textR 0 256) fun s => retR ⟨2, 0, s, false⟩
      else bindR (oneR 0 1) fun x => retR ⟨3, 0, [], decide (x.toNat = 1)⟩)
    (q := fun c v => if c.toNat = 1 then putN v.n else if c.toNat = 2 then putS v.s else [if v.b then 1 else 0])
    (Q := fun c v => okV v ∧ v.k = c.toNat) (fun c hc => ?_) (fun c v hc hv => ?_)
  · refine k.congr (fun v => ?_) (fun v h => ?_)
    · constructor
      · intro h; exact h.2.1
      · intro h
        have hk : v.k = 1 ∨ v.k = 2 ∨ v.k = 3 := by
          have h := h.1
          unfold validV at h
          split at h
          · exact .inl ‹_›
          split at h
          · exact .inr (.inl ‹_›)
          split at h
          · exact .inr (.inr ‹_›)
          · cases h
        rcases hk with e | e | e <;> rw [e] <;> exact ⟨⟨by decide, by decide⟩, h, by decide⟩
    · obtain ⟨h1, h2, h3⟩ := h
      simp only [encV]
      rw [List.singleton_append]
      congr 1
      generalize (UInt8.ofNat v.k.toNat).toNat = x at h3 ⊢
      have e1 : (x = 1) ↔ (v.k = 1) := by omega
      have e2 : (x = 2) ↔ (v.k = 2) := by omega
      simp only [e1, e2]
  · by_cases h1 : c.toNat = 1
    · simp only [h1, if_true]
      have k := Form.bind (fun v : Val => v.n) (Form.numb (lo := -9223372036854775808) (hi := 9223372036854775807) (by omega) (by omega)) (g := fun n => retR (⟨1, n, [], false⟩ : Val)) (fun n _ => Form.ret _) (fun n v _ h => by rw [h])
      refine k.congr (fun v => ?_) (fun v _ => by simp)
      obtain ⟨vk, vn, vs, vb⟩ := v
      constructor
      · rintro ⟨h2, h3⟩
        have h2 : -9223372036854775808 ≤ vn ∧ vn ≤ 9223372036854775807 := h2
        cases h3
        exact ⟨⟨rfl, by show _ ≤ vn; omega, by show vn < _; omega⟩, rfl⟩
      · rintro ⟨⟨h2, h3, h4⟩, h5⟩
        simp only at h3 h4 h5
        subst h5
        simp [validV] at h2
        refine ⟨⟨h3, by show vn ≤ _; omega⟩, ?_⟩
        simp [h2]
    · by_cases h2 : c.toNat = 2
      · rw [if_neg h1, if_pos h2]
        have k := Form.bind (fun v : Val => v.s) (Form.text (lo := 0) (hi := 256) (by omega) (by omega)) (g := fun s => retR (⟨2, 0, s, false⟩ : Val)) (fun n _ => Form.ret _) (fun n v _ h => by rw [h])
        refine k.congr (fun v => ?_) (fun v _ => by simp [h1, h2])
        obtain ⟨vk, vn, vs, vb⟩ := v
        rw [h2]
        constructor
        · rintro ⟨h3, h4⟩
          cases h4
          refine ⟨⟨?_, by show _ ≤ (0 : Int); omega, by show (0 : Int) < _; omega⟩, rfl⟩
          simp only at h3
          simp [validV]; omega
        · rintro ⟨⟨h3, h4, h5⟩, h6⟩
          simp only at h6
          subst h6
          simp [validV] at h3
          refine ⟨⟨by simp only; omega, by simp only; omega⟩, ?_⟩
          simp [h3]
      · rw [if_neg h1, if_neg h2]
        have h3 : c.toNat = 3 := by omega
        have k := Form.bind (fun v : Val => (if v.b then 1 else 0 : UInt8)) (Form.one 0 1) (g := fun x => retR (⟨3, 0, [], decide (x.toNat = 1)⟩ : Val)) (fun n _ => Form.ret _) (fun x v hx h => by
          rw [h]
          simp only
          by_cases h4 : x.toNat = 1
          · rw [if_pos (decide_eq_true h4)]; exact (u8_eq h4).symm
          · rw [if_neg (by simp [h4])]
            have : x.toNat = 0 := by omega
            exact (u8_eq this).symm)
        refine k.congr (fun v => ?_) (fun v _ => by simp [h1, h2])
        obtain ⟨vk, vn, vs, vb⟩ := v
        rw [h3]
        constructor
        · rintro ⟨h4, h5⟩
          simp only [Val.mk.injEq] at h5
          obtain ⟨e1, e2, e3, e4⟩ := h5
          subst e1 e2 e3
          exact ⟨⟨by simp [validV], by show _ ≤ (0 : Int); omega, by show (0 : Int) < _; omega⟩, rfl⟩
        · rintro ⟨⟨h4, h5, h6⟩, h7⟩
          simp only at h7
          subst h7
          simp [validV] at h4
          obtain ⟨rfl, rfl⟩ := h4
          cases vb <;> exact ⟨⟨by decide, by decide⟩, by decide⟩
  · show UInt8.ofNat v.k.toNat = c
    rw [hv.2, Int.toNat_natCast, UInt8.ofNat_toNat]
/-! ### Events -/
def rep (f : Bytes → Rd α) : Nat → Bytes → Rd (List α)
  | 0 => retR []
  | n + 1 => bindR f fun x => bindR (rep f n) fun xs => retR (x :: xs)
theorem Form.rep {f : Bytes → Rd α} {p : α → Bytes} {P : α → Prop} [Inhabited α] (k : Form f p P) : ∀ n, Form (rep f n) (fun xs => xs.flatMap p) (fun xs => xs.length = n ∧ ∀ x ∈ xs, P x)
  | 0 => (Form.ret ([] : List α)).congr (fun xs => by
      constructor
      · rintro rfl; exact ⟨rfl, by simp⟩
      · rintro ⟨h, _⟩; exact List.eq_nil_of_length_eq_zero h) (fun xs h => by subst h; rfl)
  | n + 1 => by
    have k2 : ∀ x, Form (bindR (F.rep f n) fun xs => retR (x :: xs)) (fun ys => ys.tail.flatMap p) (fun ys => ys.head? = some x ∧ ys.tail.length = n ∧ ∀ y ∈ ys.tail, P y) := fun x => by
      have k2 := Form.bind (fun ys : List α => ys.tail) (Form.rep k n) (g := fun xs => retR (x :: xs)) (fun xs _ => Form.ret _) (fun xs ys _ h => by rw [h]; rfl)
      refine k2.congr (fun ys => ?_) (fun ys _ => by simp)
      constructor
      · rintro ⟨h1, h2⟩
        rw [h2]
        exact ⟨rfl, h1⟩
      · rintro ⟨h1, h2⟩
        refine ⟨h2, ?_⟩
        cases ys with
        | nil => cases h1
        | cons y ys => simp at h1; subst h1; rfl
    have k3 := Form.bind (fun ys : List α => ys.headD default) k (g := fun x => bindR (F.rep f n) fun xs => retR (x :: xs)) (q := fun _ ys => ys.tail.flatMap p) (Q := fun x ys => ys.head? = some x ∧ ys.tail.length = n ∧ ∀ y ∈ ys.tail, P y) (fun x _ => k2 x) (fun x ys _ h => by
      cases ys with
      | nil => cases h.1
      | cons y ys => simpa using h.1)
    refine k3.congr (fun ys => ?_) (fun ys h => ?_)
    · cases ys with
      | nil => simp
      | cons y ys => simp; exact ⟨fun h => ⟨h.2.1, h.1, h.2.2⟩, fun h => ⟨h.2.1, h.1, h.2.2⟩⟩
    · cases ys with
      | nil => simp at h
      | cons y ys => simp
def maxTime : Int := 4611686018427387904
def faultE (e : Ev) : Int :=
  if nameOk e.t = false then 20 else if e.tm < 0 ∨ maxTime < e.tm then 23 else if 16 < e.vs.length then 2 else if e.vs.all validV = false then 12 else 0
def rngE (e : Ev) : Prop := ∀ v ∈ e.vs, rngV v
def encE (e : Ev) : Bytes := putS e.t ++ (putN e.tm ++ (putN e.vs.length ++ e.vs.flatMap encV))
def nameR : Bytes → Rd Bytes := bindR (textR 1 32) fun t => if nameOk t then retR t else failR 31
instance : Inhabited Val := ⟨noVal⟩
instance : Inhabited Ev := ⟨noEv⟩
def evR : Bytes → Rd Ev := bindR nameR fun t => bindR (numb 0 maxTime) fun tm => bindR (numb 0 16) fun n => bindR (rep valR n.toNat) fun vs => retR ⟨t, tm, vs⟩
theorem Form.name : Form nameR putS (fun t => nameOk t = true) := by
  have k := Form.bind (fun t : Bytes => t) (Form.text (lo := 1) (hi := 32) (by omega) (by omega)) (g := fun t => if nameOk t then retR t else failR 31) (q := fun _ _ => []) (Q := fun t y => nameOk t = true ∧ y = t) (fun t _ => by
    cases h : nameOk t
    · exact (Form.fail 31 (fun _ => [])).congr (fun x => by simp) (fun x h => h.elim)
    · exact (Form.ret t).congr (fun x => by simp) (fun x h => rfl)) (fun t y _ h => h.2)
  refine k.congr (fun t => ?_) (fun t _ => by simp)
  constructor
  · intro h; exact h.2.1
  · intro h
    have := nameOk_len h
    exact ⟨by omega, h, rfl⟩
theorem fault0 {e : Ev} : faultE e = 0 ↔ nameOk e.t = true ∧ 0 ≤ e.tm ∧ e.tm ≤ maxTime ∧ e.vs.length ≤ 16 ∧ ∀ v ∈ e.vs, validV v = true := by
  unfold faultE
  constructor
  · intro h
    split at h
    · cases h
    split at h
    · cases h
    split at h
    · cases h
    split at h
    · cases h
    rename_i h1 h2 h3 h4
    refine ⟨by simpa using h1, by omega, by omega, by omega, ?_⟩
    simpa using h4
  · rintro ⟨h1, h2, h3, h4, h5⟩
    rw [if_neg (by simp [h1]), if_neg (by omega), if_neg (by omega), if_neg]
    simpa using h5
def okE (e : Ev) : Prop := faultE e = 0 ∧ rngE e
theorem Form.ev : Form evR encE okE := by
  have k4 : ∀ t tm, ∀ n : Int, 0 ≤ n ∧ n ≤ 16 → Form (bindR (F.rep valR n.toNat) fun vs => retR (⟨t, tm, vs⟩ : Ev)) (fun e => e.vs.flatMap encV) (fun e => (e.vs.length = n.toNat ∧ ∀ v ∈ e.vs, okV v) ∧ e = ⟨t, tm, e.vs⟩) := fun t tm n _ =>
    (Form.bind (fun e : Ev => e.vs) (Form.rep Form.val n.toNat) (g := fun vs => retR (⟨t, tm, vs⟩ : Ev)) (fun xs _ => Form.ret _) (fun xs ys _ h => by rw [h])).congr (fun e => Iff.rfl) (fun e _ => by simp)
  have k3 := fun t tm => Form.bind (fun e : Ev => (e.vs.length : Int)) (Form.numb (lo := 0) (hi := 16) (by omega) (by omega)) (fun n hn => k4 t tm n hn) (fun n e hn h => by
    have h := h.1.1
    show (e.vs.length : Int) = n
    omega)
  have k2 := fun t => Form.bind (fun e : Ev => e.tm) (Form.numb (lo := 0) (hi := maxTime) (by omega) (by decide)) (fun tm _ => k3 t tm) (fun tm e _ h => by rw [h.2.2])
  have k1 := Form.bind (fun e : Ev => e.t) Form.name (fun t _ => k2 t) (fun t e _ h => by rw [h.2.2.2])
  refine k1.congr (fun e => ?_) (fun e _ => rfl)
  unfold okE
  rw [fault0]
  constructor
  · rintro ⟨h1, h2, h3, ⟨h4, h5⟩, h6⟩
    exact ⟨⟨h1, h2.1, h2.2, by omega, fun v hv => (h5 v hv).1⟩, fun v hv => (h5 v hv).2⟩
  · rintro ⟨⟨h1, h2, h3, h4, h5⟩, h6⟩
    exact ⟨h1, ⟨h2, h3⟩, ⟨by omega, by omega⟩, ⟨by omega, fun v hv => ⟨h5 v hv, h6 v hv⟩⟩, rfl⟩
theorem encV_len {v : Val} (h : validV v = true) : (encV v).length ≤ 267 := by
  have hn := fun n => (putZ_len 9 (zig n)).2
  unfold encV validV at *
  rw [List.length_cons]
  by_cases h1 : v.k = 1
  · rw [if_pos h1]
    have := hn v.n
    unfold putN; omega
  · rw [if_neg h1] at h ⊢
    by_cases h2 : v.k = 2
    · rw [if_pos h2] at h ⊢
      simp only [Bool.and_eq_true, decide_eq_true_eq] at h
      have := hn v.s.length
      unfold putS putN
      rw [List.length_append]; omega
    · rw [if_neg h2]; simp
theorem encVs_len : ∀ {vs : List Val}, (∀ v ∈ vs, validV v = true) → (vs.flatMap encV).length ≤ 267 * vs.length
  | [], _ => by simp
  | v :: vs, h => by
    have h1 := encV_len (h v (by simp))
    have h2 := encVs_len (vs := vs) fun w hw => h w (by simp [hw])
    rw [List.flatMap_cons, List.length_append, List.length_cons]; omega
theorem encE_len {e : Ev} (h : faultE e = 0) : (encE e).length ≤ 5000 := by
  have hn := fun n => (putZ_len 9 (zig n)).2
  obtain ⟨h1, h2, h3, h4, h5⟩ := fault0.1 h
  have := nameOk_len h1
  have := encVs_len h5
  have := hn e.t.length
  have := hn e.tm
  have := hn e.vs.length
  unfold encE putS putN
  simp only [List.length_append]
  omega
end Go.Proofs.YtgdgebmlcgohhaaGreatDoor.F
/-! ## Package wire: bytes compared, and the document's reading of a number. -/
namespace Go.Proofs.YtgdgebmlcgohhaaGreatDoor.F
open Go Go.VC Go.Proofs
set_option linter.unusedSimpArgs false
set_option linter.unusedVariables false
set_option maxRecDepth 100000
attribute [local irreducible] CallsH RunsTo PureTo

variable {S F G : Nat → Prop} {h0 h h1 : Heap} {L R L' : List A} {a b : Option Addr} {l c l2 c2 : Nat} {bs cs : List UInt8}
theorem bytesV_cut (bs : List UInt8) (lo hi : Nat) : ((bytesV bs).take (hi * 1)).drop (lo * 1) = bytesV ((bs.take hi).drop lo) := by
  simp [bytesV, List.map_take, List.map_drop]
theorem cut_len {bs : List UInt8} {lo hi : Nat} (h : hi ≤ bs.length) : ((bs.take hi).drop lo).length = hi - lo := by
  rw [List.length_drop, List.length_take]; omega
/-- A part of some bytes. -/
theorem _root_.Go.VC.Ro.bcut {F : Nat → Prop} (k : Ro F h a (bytesV bs)) (hl : bs.length = l) {lo hi mx : Nat} {x y z : Int} (hx : x = lo) (hy : y = hi) (hz : z = mx) (h1 : lo ≤ hi) (h2 : hi ≤ l) (h3 : hi ≤ mx) (h4 : mx ≤ c) {K : Option Addr → Nat → Nat → Prop}
    (q : ∀ a', Ro F h a' (bytesV ((bs.take hi).drop lo)) → ((bs.take hi).drop lo).length = hi - lo → K a' (hi - lo) (mx - lo)) : VSlice 1 a c x y z K :=
  k.cut (by rw [bytesV_len, hl, Nat.mul_one]) hx hy hz h1 h2 h3 h4 fun a' r hlen => q a' (by rw [← bytesV_cut]; exact r) (cut_len (by omega))
theorem eqStr (bs : List UInt8) (m : List UInt8) : strEq ⟨bs.toArray⟩ ⟨m.toArray⟩ = decide (bs = m) := by
  have e : ∀ l : List UInt8, (ByteArray.mk l.toArray).toList = l := by
    intro l
    rw [ByteArray.toList_eq]
  unfold strEq
  rw [e, e]
  by_cases h : bs = m <;> simp [h]
theorem take_next {α : Type} {xs : List α} {j : Nat} {x : α} (h : xs[j]? = some x) : xs.take (j + 1) = xs.take j ++ [x] := by rw [List.take_add_one, h]; rfl
theorem ne_u8 (x y : UInt8) : ((x.toNat : Int) != (y.toNat : Int)) = decide (x ≠ y) := by
  by_cases h : x = y
  · subst h; simp
  · have : x.toNat ≠ y.toNat := fun e => h (UInt8.toNat_inj.1 e)
    have : (x.toNat : Int) ≠ (y.toNat : Int) := by omega
    simp [h, this]
theorem same_spec (hs : Sl h a (bytesV bs)) (hl : bs.length = l) (ht : Sl h b (bytesV cs)) (hl2 : cs.length = l2) (hb : l < 9223372036854775807) : CallsH Tryz.prog 17 #[.slice a l c, .slice b l2 c2] h (fun v h' => v = .bool (decide (bs = cs)) ∧ h' = h) := by
  refine vf17 _ _ _ _ _ _ h _ ?_
  unfold F17
  refine cond_split (fun hc => ?_) (fun hc => ?_)
  · have hne : (l : Int) ≠ l2 := by simpa using hc
    refine ⟨?_, rfl⟩
    rw [decide_eq_false (fun e => hne (by subst e; omega))]
  have hll : l = l2 := by
    have : (l : Int) = l2 := by simpa using hc
    omega
  subst hll
  clear hc
  refine ⟨fun n hh _ i => ∃ j : Nat, i = j ∧ j ≤ l ∧ n = l - j ∧ hh = h ∧ bs.take j = cs.take j, ⟨_, 0, rfl, by omega, rfl, rfl, rfl⟩, ?_⟩
  rintro n hh _ _ i ⟨j, rfl, hj, rfl, rfl, he⟩
  refine cond_split (fun hc => ?_) (fun hc => ?_)
  · have hjl : j < l := Int.ofNat_lt.1 (of_decide_eq_true hc)
    refine hs.one hl (by omega) (by omega) fun ad x hx hcell => ⟨_, hcell, ht.one hl2 (by omega) (by omega) fun ad2 y hy hcell2 => ⟨_, hcell2, ?_⟩⟩
    rw [Int.toNat_natCast] at hx hy
    rw [ne_u8]
    refine cond_split (fun hd => ?_) (fun hd => ?_)
    · refine ⟨?_, rfl⟩
      rw [decide_eq_false]
      intro e
      subst e
      rw [hx] at hy
      cases hy
      simp at hd
    · have hxy : x = y := by simpa using of_decide_eq_false hd
      refine ⟨_, by omega, j + 1, wrap_nat hjl (by omega), hjl, rfl, rfl, ?_⟩
      rw [take_next hx, take_next hy, he, hxy]
  · have hjl : j = l := by
      have : ¬ (j : Int) < l := of_decide_eq_false hc
      omega
    subst hjl
    rw [List.take_of_length_le (by omega), List.take_of_length_le (by omega)] at he
    exact ⟨by rw [decide_eq_true he], rfl⟩
def gs (bs : Bytes) : Nat → Nat
  | 0 => 0
  | n + 1 => gs bs n + ((bs.getD n 0).toNat % 128) * 128 ^ n
theorem gs_lt (bs : Bytes) : ∀ n, gs bs n < 128 ^ n
  | 0 => by simp [gs]
  | n + 1 => by
    have h1 := gs_lt bs n
    have h2 : (bs.getD n 0).toNat % 128 ≤ 127 := by omega
    have := Nat.mul_le_mul_right (128 ^ n) h2
    rw [gs, Nat.pow_succ]; omega
theorem getD_of {bs : Bytes} {n : Nat} {x : UInt8} (h : bs[n]? = some x) : bs.getD n 0 = x := by simp [List.getD, h]
theorem drop_of {bs : Bytes} {n : Nat} {x : UInt8} (h : bs[n]? = some x) : bs.drop n = x :: bs.drop (n + 1) := by
  obtain ⟨hlt, he⟩ := List.getElem?_eq_some_iff.1 h
  rw [List.drop_eq_getElem_cons hlt, he]
theorem scan (bs : Bytes) : ∀ n, n ≤ 9 → n ≤ bs.length → (∀ i x, i < n → bs[i]? = some x → 128 ≤ x.toNat) → getZ 0 0 bs = getZ n (gs bs n) (bs.drop n)
  | 0, _, _, _ => rfl
  | n + 1, h9, hl, hk => by
    obtain ⟨x, hx⟩ : ∃ x, bs[n]? = some x := ⟨_, List.getElem?_eq_getElem (by omega)⟩
    rw [scan bs n (by omega) (by omega) (fun i x hi => hk i x (by omega)), drop_of hx]
    have := hk n x (by omega) hx
    rw [getZ, if_neg (by omega), if_pos this, gs, getD_of hx]
section
variable {N : Nat} (hlead : ∀ i x, i < N → bs[i]? = some x → 128 ≤ x.toNat)
include hlead
theorem scan_end (h9 : N ≤ 9) (hl : N = bs.length) : getN bs = .err 30 := by
  unfold getN
  rw [scan bs N h9 (by omega) hlead, List.drop_of_length_le (by omega), getZ]
theorem scan_ten (h10 : N = 10) (hl : N ≤ bs.length) : getN bs = .err 31 := by
  subst h10
  obtain ⟨x, hx⟩ : ∃ x, bs[9]? = some x := ⟨_, List.getElem?_eq_getElem (by omega)⟩
  have := hlead 9 x (by omega) hx
  unfold getN
  rw [scan bs 9 (by omega) (by omega) (fun i x hi => hlead i x (by omega)), drop_of hx, getZ, if_pos (by omega)]
theorem scan_nine {x : UInt8} (h9 : N = 9) (hx : bs[9]? = some x) (h1 : 1 < x.toNat) : getN bs = .err 31 := by
  subst h9
  have hlt := (List.getElem?_eq_some_iff.1 hx).1
  unfold getN
  rw [scan bs 9 (by omega) (by omega) hlead, drop_of hx, getZ, if_pos (by omega)]
theorem scan_last {x : UInt8} (h9 : N ≤ 9) (hx : bs[N]? = some x) (h1 : x.toNat < 128) (h91 : N = 9 → x.toNat ≤ 1) : getZ 0 0 bs = if x.toNat = 0 ∧ 0 < N then .err 31 else .ok (gs bs (N + 1)) (N + 1) := by
  have hlt := (List.getElem?_eq_some_iff.1 hx).1
  rw [scan bs N h9 (by omega) hlead, drop_of hx, getZ, if_neg (by omega), if_neg (by omega), gs, getD_of hx, Nat.mod_eq_of_lt h1]
theorem scan_same {x : UInt8} (h9 : N ≤ 9) (hx : bs[N]? = some x) (h1 : x.toNat < 128) (h91 : N = 9 → x.toNat ≤ 1) :
    (if decide (putN (zag (gs bs (N + 1))) = (bs.take (N + 1)).drop 0) then Rd.ok (zag (gs bs (N + 1))) (N + 1) else .err 31) = getN bs := by
  have hlt := (List.getElem?_eq_some_iff.1 hx).1
  have key := scan_last hlead h9 hx h1 h91
  have ep : putN (zag (gs bs (N + 1))) = putZ 9 (gs bs (N + 1)) := by unfold putN; rw [zig_zag]
  rw [ep, List.drop_zero]
  unfold getN
  by_cases h0 : x.toNat = 0 ∧ 0 < N
  · rw [if_pos h0] at key
    rw [key, if_neg]
    intro he
    have he := of_decide_eq_true he
    have h2 : gs bs (N + 1) < 2 * 128 ^ 9 := by
      by_cases h9' : N = 9
      · subst h9'
        have := gs_lt bs 9
        rw [gs, getD_of hx]
        have e2 : x.toNat % 128 ≤ 1 := by omega
        have := Nat.mul_le_mul_right (128 ^ 9) e2
        omega
      · have := gs_lt bs (N + 1)
        have : 128 ^ (N + 1) ≤ 128 ^ 9 := Nat.pow_le_pow_right (by omega) (by omega)
        omega
    have hg := get_put 9 0 (gs bs (N + 1)) 0 [] rfl h2 (fun h => by omega)
    rw [List.append_nil, he] at hg
    have hx' : (bs.take (N + 1))[N]? = some x := by rw [List.getElem?_take, if_pos (by omega), hx]
    have key2 := scan_last (bs := bs.take (N + 1)) (N := N) (fun i y hi hy => hlead i y hi (by rw [List.getElem?_take, if_pos (by omega)] at hy; exact hy)) h9 hx' h1 h91
    rw [if_pos h0] at key2
    rw [key2] at hg
    cases hg
  · rw [if_neg h0] at key
    obtain ⟨z, e1, e2, _, e4, e5⟩ := put_get bs 9 0 0 _ _ rfl key
    have : z = gs bs (N + 1) := by omega
    subst this
    rw [key, if_pos]
    refine decide_eq_true ?_
    rw [← e5]
    congr 1
    omega
end
end Go.Proofs.YtgdgebmlcgohhaaGreatDoor.F
/-! ## Wire's names, Encode, Decode, under this seat's numbers. -/
/-! ## Package wire: names and values, as the program and the document ask them. -/
namespace Go.Proofs.YtgdgebmlcgohhaaGreatDoor.F
open Go Go.VC Go.Proofs
set_option linter.unusedSimpArgs false
set_option linter.unusedVariables false
set_option maxRecDepth 100000
attribute [local irreducible] CallsH RunsTo PureTo

variable {S F G : Nat → Prop} {h0 h h1 : Heap} {L R L' : List A} {a b : Option Addr} {l c l2 c2 : Nat} {bs cs : List UInt8}
abbrev bA (s : Bytes) : ByteArray := ByteArray.mk s.toArray
theorem bA_size (s : Bytes) : (bA s).size = s.length := rfl
theorem bA_at {s : Bytes} {i : Nat} {x : UInt8} (h : s[i]? = some x) : (bA s)[i]? = some x := by
  obtain ⟨hlt, he⟩ := List.getElem?_eq_some_iff.1 h
  rw [ByteArray.getElem?_lt' _ _ (show i < (bA s).size from hlt)]
  rw [← he]; rfl
theorem bA_of (s : ByteArray) : ∃ t : Bytes, s = bA t := ⟨s.data.toList, rfl⟩
theorem eqNil (s : Bytes) : strEq (bA s) (ByteArray.mk #[]) = decide (s = []) := eqStr s []
theorem dec_iff {p : Prop} [Decidable p] {b : Bool} (h : p ↔ b = true) : decide p = b := by
  cases b
  · exact decide_eq_false fun hp => by have := h.1 hp; cases this
  · exact decide_eq_true (h.2 rfl)
theorem letter_spec (x : UInt8) : CallsH Tryz.prog 155 #[.int .u8 (x.toNat : Int)] h (fun v h' => v = .bool (isLetter x) ∧ h' = h) := by
  refine vf155 _ h _ ?_
  unfold F155
  unfold isLetter
  generalize x.toNat = n
  have e : ((n : Int) == 95) = decide (n = 95) := by rw [Bool.eq_iff_iff]; simp; omega
  repeat' refine cond_split (fun hc => ?_) (fun hc => ?_)
  all_goals
    refine ⟨?_, rfl⟩
    congr 1
    simp only [ge_iff_le, decide_eq_true_eq, decide_eq_false_iff_not] at *
    rw [Bool.eq_iff_iff]
    simp
    omega
theorem part_spec (x : UInt8) : CallsH Tryz.prog 156 #[.int .u8 (x.toNat : Int)] h (fun v h' => v = .bool (isPart x) ∧ h' = h) := by
  refine vf156 _ h _ ?_
  unfold F156
  refine CallsH.mono (letter_spec x) ?_
  rintro _ _ ⟨rfl, rfl⟩
  refine ⟨_, rfl, ?_⟩
  unfold isPart isDigit
  cases isLetter x
  · refine cond_false rfl (cond_split (fun hc => ⟨?_, rfl⟩) (fun hc => ⟨?_, rfl⟩))
    all_goals
      congr 1
      simp only [ge_iff_le, decide_eq_true_eq, decide_eq_false_iff_not] at *
      rw [Bool.eq_iff_iff]
      simp
      omega
  · exact cond_true rfl ⟨rfl, rfl⟩
def strV (s : Bytes) : Value := .string (bA s)
/-- The words, in memory. -/
abbrev Wd (F : Nat → Prop) (h : Heap) : Prop := Ro F h (some ⟨1, 0, none⟩) (words.map strV)
theorem Wd.rd (k : Wd F h) {i : Nat} {w : Bytes} (hw : words[i]? = some w) : cellH h ⟨1, i, none⟩ = some (.string (bA w)) := by
  obtain ⟨ad, e, q, _⟩ := k i (strV w) (by rw [List.getElem?_map, hw]; rfl)
  cases e
  rw [VC.add_plain, Nat.zero_add] at q
  exact q
theorem part9 {cs : Array Value} {off : Nat} {v : Value} (hv : cs[off]? = some v) (w : World) : (part 9 cs off).run Tryz.prog w = .ok v w := by
  have e : (isAgg 9).run Tryz.prog w = .ok false w := by kernel_rfl
  unfold part
  rw [Sem.run_bind, e, Result.andThen_ok]
  simp [hv]
theorem index118 {cs : Array Value} {j : Nat} {v : Value} {K : Value → Prop} (hj : j < 16) (hv : cs[j]? = some v) (q : K v) : PureTo Tryz.prog (Instr.index 198 (.agg cs) (.int .i64 (j : Int))) K := by
  refine .ok (fun w => ?_) q
  have hu : Tryz.prog.underlying 198 = some (.array 16 9) := by kernel_rfl
  have e : (sizeOf 9).run Tryz.prog w = .ok 1 w := by kernel_rfl
  simp only [Instr.index, asIntOf, Sem.run_bind, Sem.run_pure, Result.andThen_ok, und_run hu, Sem.run_ite]
  rw [if_pos ⟨by omega, by omega⟩, e, Result.andThen_ok, Int.toNat_natCast, Nat.mul_one, part9 hv]
theorem contains_take {s : Bytes} {j : Nat} {w : Bytes} (hw : words[j]? = some w) (hn : (words.take j).contains s = false) (hs : s ≠ w) : (words.take (j + 1)).contains s = false := by
  rw [take_next hw]
  simp at hn ⊢
  exact ⟨hn, hs⟩
theorem contains_at {s : Bytes} {j : Nat} (hw : words[j]? = some s) : words.contains s = true := by
  simp
  exact List.mem_of_getElem? hw
theorem contains_all {s : Bytes} {j : Nat} (hj : 16 ≤ j) (hn : (words.take j).contains s = false) : words.contains s = false := by
  rwa [List.take_of_length_le (show words.length ≤ j from hj)] at hn
theorem all_take {s : Bytes} {j : Nat} {x : UInt8} (hx : s[j]? = some x) (hn : (s.take j).all isPart = true) (hp : isPart x = true) : (s.take (j + 1)).all isPart = true := by
  rw [take_next hx, List.all_append, hn]
  simp [hp]
theorem all_not {s : Bytes} {j : Nat} {x : UInt8} (hx : s[j]? = some x) (hp : isPart x = false) : s.all isPart = false := by
  rw [Bool.eq_false_iff]
  intro h
  rw [List.all_eq_true] at h
  have := h x (List.mem_of_getElem? hx)
  rw [hp] at this; cases this
theorem nameOk_cons (x : UInt8) (r : Bytes) : nameOk (x :: r) = (decide ((x :: r).length ≤ 32) && isLetter x && (x :: r).all isPart && !words.contains (x :: r)) := rfl
theorem name_spec (hw : Wd F h) (s : Bytes) : CallsH Tryz.prog 148 #[.string (bA s)] h (fun v h' => v = .bool (nameOk s) ∧ h' = h) := by
  refine vf148 _ h _ ?_
  unfold F148
  rw [eqNil]
  refine cond_split (fun hc => ?_) (fun hc => ?_)
  · have hc := of_decide_eq_true hc
    subst hc
    exact ⟨rfl, rfl⟩
  cases s with
  | nil => cases hc
  | cons x r =>
  clear hc
  rw [bA_size]
  refine cond_split (fun hc => ?_) (fun hc => ?_)
  · have hl : ¬ (x :: r).length ≤ 32 := by
      have : ((x :: r).length : Int) > 32 := of_decide_eq_true hc
      omega
    refine ⟨?_, rfl⟩
    rw [nameOk_cons]
    rw [decide_eq_false hl]; rfl
  have hl : (x :: r).length ≤ 32 := by
    have : ¬ ((x :: r).length : Int) > 32 := of_decide_eq_false hc
    omega
  clear hc
  refine ⟨by omega, x, bA_at (s := x :: r) (i := 0) rfl, ?_⟩
  refine CallsH.mono (letter_spec x) ?_
  rintro _ hq ⟨rfl, rfl⟩
  refine ⟨_, rfl, cond_split (fun hc => ?_) (fun hc => ?_)⟩
  · have hx : isLetter x = false := by simpa using hc
    refine ⟨?_, rfl⟩
    rw [nameOk_cons]
    rw [hx]; simp
  have hx : isLetter x = true := by simpa using hc
  clear hc
  have hn : nameOk (x :: r) = ((x :: r).all isPart && !words.contains (x :: r)) := by
    rw [nameOk_cons]
    rw [hx, decide_eq_true hl, Bool.true_and, Bool.true_and]
  rw [hn]
  clear hn hx
  generalize x :: r = s at hl
  refine ⟨fun n hh _ i => ∃ j : Nat, i = j ∧ j ≤ s.length ∧ n = s.length - j ∧ hh = hq ∧ (s.take j).all isPart = true, ⟨_, 0, rfl, by omega, rfl, rfl, rfl⟩, ?_⟩
  rintro n hh _ _ i ⟨j, rfl, hj, rfl, rfl, hp⟩
  refine cond_split (fun hc => ?_) (fun hc => ?_)
  · have hjl : j < s.length := Int.ofNat_lt.1 (of_decide_eq_true hc)
    have hx : s[j]? = some s[j] := List.getElem?_eq_getElem hjl
    generalize s[j] = x at hx
    refine ⟨by omega, x, by rw [Int.toNat_natCast]; exact bA_at hx, ?_⟩
    refine CallsH.mono (part_spec x) ?_
    rintro _ _ ⟨rfl, rfl⟩
    refine ⟨_, rfl, cond_split (fun hc => ?_) (fun hc => ?_)⟩
    · have hx0 : isPart x = false := by simpa using hc
      refine ⟨?_, rfl⟩
      rw [all_not hx hx0]; rfl
    · have hx0 : isPart x = true := by simpa using hc
      exact ⟨_, by omega, j + 1, wrap_nat hjl (by omega), hjl, rfl, rfl, all_take hx hp hx0⟩
  have hjl : j = s.length := by
    have : ¬ (j : Int) < s.length := of_decide_eq_false hc
    omega
  subst hjl
  rw [List.take_of_length_le (Nat.le_refl _)] at hp
  rw [hp, Bool.true_and]
  clear hc hj
  refine ⟨_, hw.rd (i := 0) rfl, _, hw.rd (i := 1) rfl, _, hw.rd (i := 2) rfl, _, hw.rd (i := 3) rfl, _, hw.rd (i := 4) rfl, _, hw.rd (i := 5) rfl, _, hw.rd (i := 6) rfl, _, hw.rd (i := 7) rfl, _, hw.rd (i := 8) rfl, _, hw.rd (i := 9) rfl, _, hw.rd (i := 10) rfl, _, hw.rd (i := 11) rfl, _, hw.rd (i := 12) rfl, _, hw.rd (i := 13) rfl, _, hw.rd (i := 14) rfl, _, hw.rd (i := 15) rfl, ?_⟩
  refine ⟨fun n h' _ i => ∃ j : Nat, i = j ∧ j ≤ 16 ∧ n = 16 - j ∧ h' = hh ∧ (words.take j).contains s = false, ⟨_, 0, rfl, by omega, rfl, rfl, rfl⟩, ?_⟩
  rintro n h' _ _ i ⟨j, rfl, hj, rfl, rfl, hp⟩
  refine cond_split (fun hc => ?_) (fun hc => ?_)
  · have hjl : j < 16 := by
      have : (j : Int) < 16 := of_decide_eq_true hc
      omega
    obtain ⟨w, hwj⟩ : ∃ w, words[j]? = some w := ⟨_, List.getElem?_eq_getElem (show j < words.length from hjl)⟩
    refine index118 (v := strV w) hjl (by
      have : ((words.map strV).toArray)[j]? = some (strV w) := by simp [hwj]
      exact this) ⟨_, rfl, ?_⟩
    rw [eqStr]
    refine cond_split (fun hc => ?_) (fun hc => ?_)
    · have hc := of_decide_eq_true hc
      subst hc
      exact ⟨by rw [contains_at hwj]; rfl, rfl⟩
    · exact ⟨_, by omega, j + 1, wrap_nat hjl (by omega), hjl, rfl, rfl, contains_take hwj hp (of_decide_eq_false hc)⟩
  · have hjl : 16 ≤ j := by
      have : ¬ (j : Int) < 16 := of_decide_eq_false hc
      omega
    exact ⟨by rw [contains_all hjl hp]; rfl, rfl⟩
def valV (v : Val) : List Value := [.int .i64 v.k, .int .i64 v.n, .string (bA v.s), .bool v.b]
abbrev aggV (v : Val) : Value := .agg #[.int .i64 v.k, .int .i64 v.n, .string (bA v.s), .bool v.b]
def eqV (a b : Val) : Bool := (a.k == b.k) && ((a.n == b.n) && (((bA a.s).toList == (bA b.s).toList) && ((a.b == b.b) && true)))
theorem eqV_dec (a b : Val) : eqV a b = decide (a = b) := by
  have := eqStr a.s b.s
  unfold strEq at this
  unfold eqV
  rw [this]
  cases a; cases b
  rw [Bool.eq_iff_iff]
  simp [Val.mk.injEq]
theorem und83 : Tryz.prog.underlying 127 = some (.struct (Tryz.prog.fieldsOf 127)) := by kernel_rfl
theorem und9 : Tryz.prog.underlying 9 = some .string := by kernel_rfl
theorem und3i : Tryz.prog.underlying 3 = some (.int .i64) := by kernel_rfl
theorem und4b : Tryz.prog.underlying 4 = some .bool := by kernel_rfl
theorem und2i : Tryz.prog.underlying 2 = some (.int .i64) := by kernel_rfl
theorem val_fields (x y : Val) (w : World) : (Op.eqFields 9999 (valV x).toArray (valV y).toArray (Tryz.prog.fieldsOf 127).toList).run Tryz.prog w = .ok (eqV x y) w := by
  have e : (Tryz.prog.fieldsOf 127).toList = [Field.mk "Kind" 3 0 false "" "" 0, Field.mk "Int" 2 1 false "" "" 8, Field.mk "Str" 9 2 false "" "" 16, Field.mk "Bool" 4 3 false "" "" 32] := by kernel_rfl
  rw [e]
  unfold eqV
  exact eqF_cons rfl (by kernel_rfl) (by kernel_rfl) (run_equalIn_int w _ _ .i64 _ _ _ und3i) (eqF_cons rfl (by kernel_rfl) (by kernel_rfl) (run_equalIn_int w _ _ .i64 _ _ _ und2i) (eqF_cons rfl (by kernel_rfl) (by kernel_rfl) (run_equalIn_string w _ _ _ _ und9) (eqF_cons rfl (by kernel_rfl) (by kernel_rfl) (run_equalIn_bool' w _ _ _ _ und4b) eqF_nil)))
theorem val_eql {x y : Val} {o1 o2 : Operand} {R : Value → Prop} (q : R (.bool (decide (x = y)))) : PureTo Tryz.prog (do eqGuard .eql 127 o1 o2 (aggV x) (aggV y); binOp .eql 127 (aggV x) (aggV y)) R :=
  eql_struct (fs := Tryz.prog.fieldsOf 127) und83 (by kernel_rfl) (by kernel_rfl) (val_fields x y) (by rw [eqV_dec]; exact q)
theorem val_neq {x y : Val} {o1 o2 : Operand} {R : Value → Prop} (q : R (.bool (!decide (x = y)))) : PureTo Tryz.prog (do eqGuard .neq 127 o1 o2 (aggV x) (aggV y); binOp .neq 127 (aggV x) (aggV y)) R :=
  neq_struct (fs := Tryz.prog.fieldsOf 127) und83 (by kernel_rfl) (by kernel_rfl) (val_fields x y) (by rw [eqV_dec]; exact q)
theorem number_spec (n : Int) : CallsH Tryz.prog 144 #[.int .i64 n] h (fun v h' => v = aggV ⟨1, n, [], false⟩ ∧ Ext h h') := by
  refine vf144 _ h _ ?_
  unfold F144
  exact (St.fresh h).vnew fun _ _ k => k.vall (by rfl) (by rfl) fun _ k => ⟨_, k.rd (by rfl), _, k.rd (by rfl), _, k.rd (by rfl), _, k.rd (by rfl), rfl, k.ext⟩
theorem text_spec (s : Bytes) : CallsH Tryz.prog 145 #[.string (bA s)] h (fun v h' => v = aggV ⟨2, 0, s, false⟩ ∧ Ext h h') := by
  refine vf145 _ h _ ?_
  unfold F145
  exact (St.fresh h).vnew fun _ _ k => k.vall (by rfl) (by rfl) fun _ k => ⟨_, k.rd (by rfl), _, k.rd (by rfl), _, k.rd (by rfl), _, k.rd (by rfl), rfl, k.ext⟩
theorem truth_spec (b : Bool) : CallsH Tryz.prog 146 #[.bool b] h (fun v h' => v = aggV ⟨3, 0, [], b⟩ ∧ Ext h h') := by
  refine vf146 _ h _ ?_
  unfold F146
  exact (St.fresh h).vnew fun _ _ k => k.vall (by rfl) (by rfl) fun _ k => ⟨_, k.rd (by rfl), _, k.rd (by rfl), _, k.rd (by rfl), _, k.rd (by rfl), rfl, k.ext⟩
theorem valid_spec (x : Val) : CallsH Tryz.prog 131 #[aggV x] h (fun v h' => v = .bool (validV x) ∧ Ext h h') := by
  refine vf131 _ _ _ _ h _ ?_
  unfold F131
  have k := St.fresh h
  obtain ⟨xk, xn, xs, xb⟩ := x
  refine k.vnew fun b1 h2 k => ⟨_, k.rd (by rfl), cond_split (fun hc => ?_) (fun hc => ?_)⟩
  · have hc : xk = 1 := by simpa using hc
    subst hc
    refine ⟨_, k.rd (by rfl), _, k.rd (by rfl), _, k.rd (by rfl), _, k.rd (by rfl), _, k.rd (by rfl), ?_⟩
    refine CallsH.mono (number_spec xn) ?_
    rintro _ h3 ⟨rfl, m⟩
    have k := k.next m
    refine ⟨_, _, _, _, rfl, ⟨k.rd (by rfl), k.rd (by rfl), k.rd (by rfl), k.rd (by rfl)⟩, val_eql (x := ⟨1, xn, xs, xb⟩) (y := ⟨1, xn, [], false⟩) ⟨_, rfl, ?_, k.ext⟩⟩
    congr 1
    unfold validV
    rw [Bool.eq_iff_iff]
    simp
  have h1 : xk ≠ 1 := by simpa using hc
  clear hc
  refine cond_split (fun hc => ?_) (fun hc => ?_)
  · have hc : xk = 2 := by simpa using hc
    subst hc
    refine ⟨_, k.rd (by rfl), _, k.rd (by rfl), _, k.rd (by rfl), _, k.rd (by rfl), _, k.rd (by rfl), ?_⟩
    refine CallsH.mono (text_spec xs) ?_
    rintro _ h3 ⟨rfl, m⟩
    have k := k.next m
    refine ⟨_, _, _, _, rfl, ⟨k.rd (by rfl), k.rd (by rfl), k.rd (by rfl), k.rd (by rfl)⟩, val_eql (x := ⟨2, xn, xs, xb⟩) (y := ⟨2, 0, xs, false⟩) ⟨_, rfl, cond_split (fun hc => ?_) (fun hc => ?_)⟩⟩
    · have hc := of_decide_eq_true hc
      simp at hc
      obtain ⟨rfl, rfl⟩ := hc
      refine ⟨_, k.rd (by rfl), ?_, k.ext⟩
      congr 1
      unfold validV
      rw [Bool.eq_iff_iff, bA_size]
      simp
      omega
    · have hc := of_decide_eq_false hc
      simp at hc
      refine ⟨?_, k.ext⟩
      congr 1
      unfold validV
      rw [Bool.eq_iff_iff]
      simp
      intro e1 e2
      rw [hc e1] at e2; cases e2
  have h2 : xk ≠ 2 := by simpa using hc
  clear hc
  refine cond_split (fun hc => ?_) (fun hc => ?_)
  · have hc : xk = 3 := by simpa using hc
    subst hc
    refine ⟨_, k.rd (by rfl), _, k.rd (by rfl), _, k.rd (by rfl), _, k.rd (by rfl), _, k.rd (by rfl), ?_⟩
    refine CallsH.mono (truth_spec xb) ?_
    rintro _ h3 ⟨rfl, m⟩
    have k := k.next m
    refine ⟨_, _, _, _, rfl, ⟨k.rd (by rfl), k.rd (by rfl), k.rd (by rfl), k.rd (by rfl)⟩, val_eql (x := ⟨3, xn, xs, xb⟩) (y := ⟨3, 0, [], xb⟩) ⟨_, rfl, ?_, k.ext⟩⟩
    congr 1
    unfold validV
    rw [Bool.eq_iff_iff]
    simp
  have h3 : xk ≠ 3 := by simpa using hc
  refine ⟨?_, k.ext⟩
  unfold validV
  rw [if_neg h1, if_neg h2, if_neg h3]
end Go.Proofs.YtgdgebmlcgohhaaGreatDoor.F
/-! ## Package wire: events are written, by the program and by the document. -/
namespace Go.Proofs.YtgdgebmlcgohhaaGreatDoor.F
open Go Go.VC Go.Proofs
set_option linter.unusedSimpArgs false
set_option linter.unusedVariables false
set_option maxRecDepth 100000
attribute [local irreducible] CallsH RunsTo PureTo

variable {S F G : Nat → Prop} {h0 h h1 : Heap} {L R L' : List A} {a b : Option Addr} {l c l2 c2 : Nat} {bs cs : List UInt8} {e : Ev} {v : Val}
/-- A value in a list of values. -/
theorem valRow {vs : List Val} {i : Int} {K : Addr → Prop} (k : Sl h a (vs.flatMap valV)) (hl : vs.length = l) (h0 : 0 ≤ i) (hi : i < l)
    (q : ∀ ad x, vs[i.toNat]? = some x → cellH h ad = some (.int .i64 x.k) → cellH h ⟨ad.block, ad.off + 1, none⟩ = some (.int .i64 x.n) → cellH h ⟨ad.block, ad.off + 2, none⟩ = some (.string (bA x.s)) → cellH h ⟨ad.block, ad.off + 3, none⟩ = some (.bool x.b) → K ad) : VIdx a l i 4 K :=
  k.row (f := valV) (fun _ => rfl) (by omega) hl h0 hi fun ad x hx hc => q ad x hx (hc 0 _ rfl) (hc 1 _ rfl) (hc 2 _ rfl) (hc 3 _ rfl)
/-- An event's values, in memory that others hold. -/
structure EvRo (F : Nat → Prop) (h : Heap) (a : Option Addr) (l : Nat) (e : Ev) : Prop where
  ro : Ro F h a (e.vs.flatMap valV)
  len : e.vs.length = l
  rng : rngE e
theorem EvRo.in (k : EvRo S h0 a l e) (s : St S h0 h L) : EvRo none_ h a l e := ⟨k.ro.in s, k.len, k.rng⟩
theorem EvRo.at (k : EvRo S h0 a l e) (m : Mod S h0 h) (hf : ∀ b, F b → S b ∨ h0.size ≤ b) : EvRo F h a l e := ⟨k.ro.at m hf, k.len, k.rng⟩
theorem EvRo.ext (k : EvRo none_ h0 a l e) (m : Ext h0 h) : EvRo none_ h a l e := ⟨(k.ro.sl.ext m).ro, k.len, k.rng⟩
theorem EvRo.none (k : EvRo S h a l e) : EvRo none_ h a l e := ⟨k.ro.sl.ro, k.len, k.rng⟩
abbrev aggE (e : Ev) (a : Option Addr) (l c : Nat) : Value := .agg #[.string (bA e.t), .int .i64 e.tm, .slice a l c]
theorem app_text (s : Bytes) (k : St S h0 h (BV a l c bs :: R)) (hb : l + s.length ≤ 140737488355328) {K : KV}
    (q : ∀ a' c' h', St S h0 h' (BV a' (l + s.length) c' (bs ++ s) :: R) → K (.slice a' (l + s.length) c') h') : RunsTo Tryz.prog (Builtin.append_ #[36, 9] 36 #[.slice a l c, .string (bA s)]) h K := by
  refine k.app T30 und9 (by simp) (n := s.length) (news := bytesV s) (Src.str (bA s)) (oneC_bytes s) (by omega) fun a' c' h' k => q a' c' h' ?_
  rw [← bytesV_app] at k
  exact k
theorem app_bytes {s : Bytes} {x : Option Addr} {cx : Nat} (k : St S h0 h (BV a l c bs :: R)) (hs : Sl h x (bytesV s)) (hb : l + s.length ≤ 140737488355328) {K : KV}
    (q : ∀ a' c' h', St S h0 h' (BV a' (l + s.length) c' (bs ++ s) :: R) → K (.slice a' (l + s.length) c') h') : RunsTo Tryz.prog (Builtin.append_ #[36, 36] 36 #[.slice a l c, .slice x s.length cx]) h K := by
  refine k.app T30 und30 (by simp) (n := s.length) (news := bytesV s) (Src.slice hs (by rw [bytesV_len, Nat.mul_one])) (oneC_bytes s) (by omega) fun a' c' h' k => q a' c' h' ?_
  rw [← bytesV_app] at k
  exact k
theorem putS_len (s : Bytes) : (putS s).length = (putN s.length).length + s.length := by unfold putS; rw [List.length_append]
theorem putStr_spec {s : Bytes} (k : Holds [BV a l c bs] F h) (hb : l + s.length ≤ 140737488300000) : CallsH Tryz.prog 149 #[.slice a l c, .string (bA s)] h (fun v h' => ∃ a' c', v = .slice a' (l + (putS s).length) c' ∧ St F h h' [BV a' (l + (putS s).length) c' (bs ++ putS s)]) := by
  refine vf149 _ _ _ _ h _ ?_
  unfold F149
  rw [bA_size]
  have hp := putN_len s.length
  refine CallsH.mono (putInt_spec k (by omega) (by omega) (by omega)) ?_
  rintro _ h2 ⟨a', c', rfl, k⟩
  refine ⟨_, _, _, rfl, app_text s k (by omega) fun a2 c2 h3 k => ⟨_, _, _, rfl, a2, c2, ?_, ?_⟩⟩
  · rw [putS_len, Nat.add_assoc]
  · rw [putS_len, ← Nat.add_assoc]
    unfold putS
    rw [← List.append_assoc]
    exact k
theorem kind_byte {k : Int} (h : 1 ≤ k ∧ k ≤ 3) : (.int .u8 (IntKind.u8.wrap k) : Value) = byteV (UInt8.ofNat k.toNat) := by
  rw [byteV_of, wrap_u8]
  congr 1
  omega
theorem valid_kind (h : validV v = true) : 1 ≤ v.k ∧ v.k ≤ 3 := by
  unfold validV at h
  split at h
  · omega
  split at h
  · omega
  split at h
  · omega
  cases h
theorem putVal_spec (k : Holds [BV a l c bs] F h) (hv : okV v) (hb : l ≤ 140737488200000) : CallsH Tryz.prog 150 #[.slice a l c, aggV v] h (fun w h' => ∃ a' c', w = .slice a' (l + (encV v).length) c' ∧ St F h h' [BV a' (l + (encV v).length) c' (bs ++ encV v)]) := by
  refine vf150 _ _ _ _ _ _ _ h _ ?_
  unfold F150
  have hk := valid_kind hv.1
  have hlen := encV_len hv.1
  have k := St.start k
  refine k.vnew fun b1 h2 k => ⟨_, k.rd (by rfl), ?_⟩
  rw [kind_byte hk]
  refine k.vnew fun b4 h5 k => ?_
  refine app_byte k.pull2.pull1 (by omega) fun a8 c8 h7 k => ⟨_, _, _, rfl, _, k.rd (by rfl), cond_split (fun hc => ?_) (fun hc => ?_)⟩
  · have hc : v.k = 1 := by simpa using hc
    have ee : encV v = UInt8.ofNat v.k.toNat :: putN v.n := by unfold encV; rw [if_pos hc]
    refine ⟨_, k.rd (by rfl), ?_⟩
    obtain ⟨F', G, k1, kG, d, hF, back⟩ := k.frameA
    refine CallsH.mono (putInt_spec k1 hv.2.1 hv.2.2 (by omega)) ?_
    rintro _ h2 ⟨a', c', rfl, k2⟩
    have k := (back k2).only
    refine ⟨_, _, _, rfl, a', c', ?_, ?_⟩
    · rw [ee, List.length_cons]
      congr 1; omega
    · rw [ee, List.length_cons, Nat.add_comm _ 1, ← Nat.add_assoc]
      rw [List.append_assoc] at k
      exact k
  have h1 : v.k ≠ 1 := by simpa using hc
  clear hc
  refine cond_split (fun hc => ?_) (fun hc => ?_)
  · have hc : v.k = 2 := by simpa using hc
    have ee : encV v = UInt8.ofNat v.k.toNat :: putS v.s := by unfold encV; rw [if_neg h1, if_pos hc]
    have hs : v.s.length ≤ 267 := by
      rw [ee, List.length_cons, putS_len] at hlen; omega
    refine ⟨_, k.rd (by rfl), ?_⟩
    obtain ⟨F', G, k1, kG, d, hF, back⟩ := k.frameA
    refine CallsH.mono (putStr_spec k1 (by omega)) ?_
    rintro _ h2 ⟨a', c', rfl, k2⟩
    have k := (back k2).only
    refine ⟨_, _, _, rfl, a', c', ?_, ?_⟩
    · rw [ee, List.length_cons]
      congr 1; omega
    · rw [ee, List.length_cons, Nat.add_comm _ 1, ← Nat.add_assoc]
      rw [List.append_assoc] at k
      exact k
  have h2 : v.k ≠ 2 := by simpa using hc
  have h3 : v.k = 3 := by omega
  have ee : encV v = [UInt8.ofNat v.k.toNat, if v.b then 1 else 0] := by unfold encV; rw [if_neg h1, if_neg h2]
  have hv3 : v = ⟨3, 0, [], v.b⟩ := by
    have hv1 := hv.1
    unfold validV at hv1
    rw [if_neg h1, if_neg h2, if_pos h3] at hv1
    simp at hv1
    cases v
    simp at hv1 h3 ⊢
    exact ⟨h3, hv1⟩
  refine ⟨_, k.rd (by rfl), _, k.rd (by rfl), _, k.rd (by rfl), _, k.rd (by rfl), val_eql (x := v) (y := ⟨3, 0, [], false⟩) ⟨_, rfl, ?_⟩⟩
  have hb3 : decide (v = ⟨3, 0, [], false⟩) = !v.b := by
    rw [hv3]
    cases v.b <;> rfl
  rw [hb3]
  rw [ee]
  refine cond_split (fun hc => ?_) (fun hc => ?_)
  · have hb0 : v.b = false := by simpa using hc
    rw [hb0]
    refine k.vnew fun b24 h25 k => app_byte (x := 0) k (by omega) fun a28 c28 h27 k => ⟨_, _, _, rfl, a28, c28, rfl, ?_⟩
    have k := k.only
    rw [List.append_assoc] at k
    exact k
  · have hb0 : v.b = true := by simpa using hc
    rw [hb0]
    refine k.vnew fun b24 h25 k => app_byte (x := 1) k (by omega) fun a28 c28 h27 k => ⟨_, _, _, rfl, a28, c28, rfl, ?_⟩
    have k := k.only
    rw [List.append_assoc] at k
    exact k
theorem all_valid_take {vs : List Val} {j : Nat} {x : Val} (hx : vs[j]? = some x) (hn : (vs.take j).all validV = true) (hp : validV x = true) : (vs.take (j + 1)).all validV = true := by
  rw [take_next hx, List.all_append, hn]
  simp [hp]
theorem all_valid_not {vs : List Val} {j : Nat} {x : Val} (hx : vs[j]? = some x) (hp : validV x = false) : vs.all validV = false := by
  rw [Bool.eq_false_iff]
  intro h
  rw [List.all_eq_true] at h
  have := h x (List.mem_of_getElem? hx)
  rw [hp] at this; cases this
theorem fault_spec (hw : Wd none_ h) (he : EvRo none_ h a l e) (hb : l ≤ 1099511627776) : CallsH Tryz.prog 141 #[aggE e a l c] h (fun v h' => v = .int .i64 (faultE e) ∧ Ext h h') := by
  refine vf141 _ _ _ _ _ h _ ?_
  unfold F141
  have k := St.fresh h
  refine k.vnew fun b1 h2 k => ⟨_, k.rd (by rfl), ?_⟩
  refine CallsH.mono (name_spec (hw.in k) e.t) ?_
  rintro _ _ ⟨rfl, rfl⟩
  refine ⟨_, rfl, cond_split (fun hc => ?_) (fun hc => ?_)⟩
  · have hc : nameOk e.t = false := by simpa using hc
    refine ⟨?_, k.ext⟩
    unfold faultE
    rw [if_pos hc]
  have h1 : nameOk e.t ≠ false := by simpa using hc
  clear hc
  have f2 : ¬ (nameOk e.t = false) → (e.tm < 0 ∨ maxTime < e.tm) → faultE e = 23 := fun x y => by unfold faultE; rw [if_neg x, if_pos y]
  refine ⟨_, k.rd (by rfl), cond_split (fun hc => ?_) (fun hc => ?_)⟩
  · exact ⟨by rw [f2 h1 (.inl (of_decide_eq_true hc))], k.ext⟩
  have h2 : ¬ e.tm < 0 := of_decide_eq_false hc
  refine ⟨_, k.rd (by rfl), cond_split (fun hc => ?_) (fun hc => ?_)⟩
  · exact ⟨by rw [f2 h1 (.inr (of_decide_eq_true hc))], k.ext⟩
  have h3 : ¬ maxTime < e.tm := of_decide_eq_false hc
  have hl := he.len
  refine ⟨_, _, _, k.rd (by rfl), cond_split (fun hc => ?_) (fun hc => ?_)⟩
  · have h4 : 16 < e.vs.length := by
      have : (l : Int) > 16 := of_decide_eq_true hc
      omega
    refine ⟨?_, k.ext⟩
    unfold faultE
    rw [if_neg h1, if_neg (by omega), if_pos h4]
  have h4 : ¬ 16 < e.vs.length := by
    have : ¬ (l : Int) > 16 := of_decide_eq_false hc
    omega
  clear hc
  have f5 : faultE e = if e.vs.all validV = false then 12 else 0 := by unfold faultE; rw [if_neg h1, if_neg (by omega), if_neg h4]
  rw [f5]
  refine ⟨_, _, _, k.rd (by rfl), ?_⟩
  refine ⟨fun n hh _ i => ∃ j : Nat, i = j ∧ j ≤ l ∧ n = l - j ∧ St none_ h hh [A.blk b1 #[.string (bA e.t), .int .i64 e.tm, .slice a l c] 125] ∧ (e.vs.take j).all validV = true, ⟨_, 0, rfl, by omega, rfl, k, rfl⟩, ?_⟩
  clear k
  rintro n hh _ _ i ⟨j, rfl, hj, rfl, k, hp⟩
  refine cond_split (fun hc => ?_) (fun hc => ?_)
  · have hjl : j < l := Int.ofNat_lt.1 (of_decide_eq_true hc)
    refine valRow (he.ro.in k).sl hl (by omega) (by omega) fun ad x hx c0 c1 c2 c3 => ⟨_, c0, _, c1, _, c2, _, c3, ?_⟩
    rw [Int.toNat_natCast] at hx
    refine k.vnew fun b23 h24 k => k.vall (by rfl) (by rfl) fun h25 k => ⟨_, k.rd (by rfl), _, k.rd (by rfl), _, k.rd (by rfl), _, k.rd (by rfl), ?_⟩
    refine CallsH.mono (valid_spec x) ?_
    rintro _ h3 ⟨rfl, m⟩
    have k := (k.next m).drop
    refine ⟨_, rfl, cond_split (fun hc => ?_) (fun hc => ?_)⟩
    · have hx0 : validV x = false := by simpa using hc
      rw [if_pos (all_valid_not hx hx0)]
      exact ⟨rfl, k.ext⟩
    · have hx0 : validV x = true := by simpa using hc
      exact ⟨_, by omega, j + 1, wrap_nat hjl (by omega), hjl, rfl, k, all_valid_take hx hp hx0⟩
  · have hjl : j = e.vs.length := by
      have : ¬ (j : Int) < l := of_decide_eq_false hc
      omega
    subst hjl
    rw [List.take_of_length_le (Nat.le_refl _)] at hp
    rw [if_neg (by simp [hp])]
    exact ⟨rfl, k.ext⟩
theorem flat_next {α β : Type} {xs : List α} {f : α → List β} {j : Nat} {x : α} (h : xs[j]? = some x) : (xs.take (j + 1)).flatMap f = (xs.take j).flatMap f ++ f x := by
  rw [take_next h, List.flatMap_append]; simp
theorem take_len_le {xs : List Val} (h : ∀ v ∈ xs, validV v = true) (j : Nat) (hj : xs.length ≤ 16) : ((xs.take j).flatMap encV).length ≤ 5000 := by
  have h1 := encVs_len (vs := xs.take j) fun v hv => h v (List.mem_of_mem_take hv)
  have h2 : (xs.take j).length ≤ 16 := by rw [List.length_take]; omega
  omega
theorem put_spec (k : Holds [BV a l c bs] F h) {x : Option Addr} {lx cx : Nat} (he : EvRo F h x lx e) (hok : faultE e = 0) (hb : l ≤ 140737488000000) :
    CallsH Tryz.prog 142 #[.slice a l c, aggE e x lx cx] h (fun v h' => ∃ a' c', v = .slice a' (l + (encE e).length) c' ∧ St F h h' [BV a' (l + (encE e).length) c' (bs ++ encE e)]) := by
  obtain ⟨f1, f2, f3, f4, f5⟩ := fault0.1 hok
  have hl := he.len
  have hT : maxTime = 4611686018427387904 := rfl
  have ht := nameOk_len f1
  refine vf142 _ _ _ _ _ _ _ _ h _ ?_
  unfold F142
  have k := St.start k
  refine k.vnew fun b1 h2 k => ⟨_, k.rd (by rfl), _, k.rd (by rfl), ?_⟩
  obtain ⟨F', G, k1, kG, d, hF, back⟩ := k.pull1.frameA
  have p1 := putN_len e.t.length
  have p2 := putN_len e.tm
  have p3 := putN_len lx
  have p4 := putS_len e.t
  refine CallsH.mono (putStr_spec k1 (by omega)) ?_
  rintro _ h3 ⟨a3, c3, rfl, k2⟩
  have k := back k2
  clear back k1 kG d hF
  refine ⟨_, _, _, rfl, k.rd (by rfl), ?_⟩
  obtain ⟨F', G, k1, kG, d, hF, back⟩ := k.frameA
  refine CallsH.mono (putInt_spec k1 (by omega) (by omega) (by omega)) ?_
  rintro _ h4 ⟨a4, c4, rfl, k2⟩
  have k := back k2
  clear back k1 kG d hF
  refine ⟨_, _, _, rfl, _, _, _, k.rd (by rfl), ?_⟩
  obtain ⟨F', G, k1, kG, d, hF, back⟩ := k.frameA
  refine CallsH.mono (putInt_spec k1 (by omega) (by omega) (by omega)) ?_
  rintro _ h5 ⟨a5, c5, rfl, k2⟩
  have k := back k2
  clear back k1 kG d hF
  refine ⟨_, _, _, rfl, _, _, _, k.rd (by rfl), ?_⟩
  have ee : encE e = putS e.t ++ (putN e.tm ++ (putN lx ++ e.vs.flatMap encV)) := by unfold encE; rw [hl]
  refine ⟨fun n hh b' lb cb i => ∃ j : Nat, i = j ∧ j ≤ lx ∧ n = lx - j ∧ lb = l + (putS e.t).length + (putN e.tm).length + (putN lx).length + ((e.vs.take j).flatMap encV).length ∧
      St F h hh [BV b' lb cb (bs ++ putS e.t ++ putN e.tm ++ putN lx ++ (e.vs.take j).flatMap encV), A.blk b1 #[.string (bA e.t), .int .i64 e.tm, .slice x lx cx] 125], ⟨_, 0, rfl, by omega, rfl, rfl, by simpa using k⟩, ?_⟩
  clear k
  rintro n hh _ b' lb cb i ⟨j, rfl, hj, rfl, rfl, k⟩
  refine cond_split (fun hc => ?_) (fun hc => ?_)
  · have hjl : j < lx := Int.ofNat_lt.1 (of_decide_eq_true hc)
    refine valRow (he.ro.in k).sl hl (by omega) (by omega) fun ad y hy c0 c1 c2 c3 => ⟨_, c0, _, c1, _, c2, _, c3, ?_⟩
    rw [Int.toNat_natCast] at hy
    have hym := List.mem_of_getElem? hy
    refine k.vnew fun b23 h24 k => k.vall (by rfl) (by rfl) fun h25 k => ⟨_, k.rd (by rfl), _, k.rd (by rfl), _, k.rd (by rfl), _, k.rd (by rfl), ?_⟩
    have hp := take_len_le f5 j f4
    obtain ⟨F', G, k1, kG, d, hF, back⟩ := k.drop.frameA
    refine CallsH.mono (putVal_spec k1 ⟨f5 y hym, he.rng y hym⟩ (by omega)) ?_
    rintro _ h5 ⟨a5, c5, rfl, k2⟩
    have k := back k2
    refine ⟨_, _, _, rfl, _, ?_, j + 1, wrap_nat hjl (by omega), hjl, rfl, ?_, ?_⟩
    · omega
    · rw [flat_next hy, List.length_append]; omega
    · rw [flat_next hy, ← List.append_assoc]; exact k
  · have hjl : j = lx := by
      have : ¬ (j : Int) < lx := of_decide_eq_false hc
      omega
    subst hjl
    rw [List.take_of_length_le (by omega)] at k ⊢
    have elen : l + (encE e).length = l + (putS e.t).length + (putN e.tm).length + (putN j).length + (e.vs.flatMap encV).length := by
      rw [ee]; simp only [List.length_append]; omega
    refine ⟨b', cb, by rw [elen], ?_⟩
    rw [elen]
    have k := k.only
    have eb : bs ++ encE e = bs ++ putS e.t ++ putN e.tm ++ putN j ++ e.vs.flatMap encV := by rw [ee]; simp only [List.append_assoc]
    rw [eb]; exact k
/-- What is written of an event. -/
def encF (e : Ev) : Bytes := if faultE e = 0 then encE e else []
theorem encode_spec (hw : Wd none_ h) (he : EvRo none_ h a l e) (hb : l ≤ 1099511627776) : CallsH Tryz.prog 128 #[aggE e a l c] h (fun v h' => ∃ a' c', v = .tuple #[.slice a' (encF e).length c', .int .i64 (faultE e)] ∧ St none_ h h' [BV a' (encF e).length c' (encF e)]) := by
  refine vf128 _ _ _ _ _ h _ ?_
  unfold F128
  have k := St.fresh h
  refine k.vnew fun b1 h2 k => ⟨_, k.rd (by rfl), _, k.rd (by rfl), _, _, _, k.rd (by rfl), ?_⟩
  refine CallsH.mono (fault_spec (hw.in k) (he.in k) hb) ?_
  rintro _ h3 ⟨rfl, m⟩
  have k := k.next m
  refine ⟨_, rfl, cond_split (fun hc => ?_) (fun hc => ?_)⟩
  · have hc : faultE e ≠ 0 := by simpa using hc
    unfold encF
    rw [if_neg hc]
    exact ⟨none, 0, rfl, (k.drop.vnil 5 (sz := 1) (by omega)).re (y := BV none 0 0 []) rfl⟩
  have hc : faultE e = 0 := by simpa using hc
  refine ⟨_, k.rd (by rfl), _, k.rd (by rfl), _, _, _, k.rd (by rfl), ?_⟩
  have k := (k.vnil 5 (sz := 1) (by omega)).re (y := BV none 0 0 []) rfl
  obtain ⟨F', G, k1, kG, d, hF, back⟩ := k.frameA
  refine CallsH.mono (put_spec k1 (he.at k.ext hF) hc (by omega)) ?_
  rintro _ h5 ⟨a5, c5, rfl, k2⟩
  have k := (back k2).only
  rw [Nat.zero_add, List.nil_append] at k
  unfold encF
  rw [if_pos hc]
  exact ⟨_, _, _, rfl, a5, c5, by rw [Nat.zero_add, hc], k⟩
end Go.Proofs.YtgdgebmlcgohhaaGreatDoor.F
/-! ## Package wire: events are read by the program. -/
namespace Go.Proofs.YtgdgebmlcgohhaaGreatDoor.F
open Go Go.VC Go.Proofs
set_option linter.unusedSimpArgs false
set_option linter.unusedVariables false
set_option maxRecDepth 100000
attribute [local irreducible] CallsH RunsTo PureTo

variable {α β γ : Type}
theorem ret_left (x : α) (g : α → Bytes → Rd β) : bindR (retR x) g = g x := by
  funext b
  unfold bindR retR
  simp only [List.drop_zero]
  cases g x b with
  | ok y m => simp
  | err e => rfl
theorem bind_assoc (f : Bytes → Rd α) (g : α → Bytes → Rd β) (k : β → Bytes → Rd γ) : bindR (bindR f g) k = bindR f fun x => bindR (g x) k := by
  funext b
  unfold bindR
  cases f b with
  | err e => rfl
  | ok x n =>
    simp only
    cases g x (b.drop n) with
    | err e => rfl
    | ok y m =>
      simp only [List.drop_drop]
      cases k y (b.drop (n + m)) with
      | err e => rfl
      | ok z i => simp [Nat.add_assoc]
theorem rep_snoc (f : Bytes → Rd α) : ∀ n, rep f (n + 1) = bindR (rep f n) fun xs => bindR f fun x => retR (xs ++ [x])
  | 0 => by
    show bindR f (fun x => bindR (retR []) fun xs => retR (x :: xs)) = bindR (retR []) _
    rw [ret_left]
    congr 1
  | n + 1 => by
    have ih := rep_snoc f n
    show bindR f (fun x => bindR (rep f (n + 1)) fun xs => retR (x :: xs)) = bindR (bindR f fun x => bindR (rep f n) fun xs => retR (x :: xs)) _
    rw [bind_assoc]
    congr 1
    funext x
    rw [ih, bind_assoc, bind_assoc]
    congr 1
    funext xs
    rw [bind_assoc, ret_left]
    congr 1
/-- What a step of a reader does: after a fault nothing, else what the plain reader says. -/
def StepR (f : Bytes → Rd α) (bs : Bytes) (p : Nat) (e : Int) (x : α) (p' : Nat) (e' : Int) : Prop :=
  (e ≠ 0 ∧ p' = p ∧ e' = e) ∨ (e = 0 ∧ ∃ n, f (bs.drop p) = .ok x n ∧ p' = p + n ∧ e' = 0) ∨ (e = 0 ∧ f (bs.drop p) = .err e' ∧ e' ≠ 0)
section
variable {f : Bytes → Rd α} {g : α → Bytes → Rd β} {bs : Bytes} {p p1 p2 : Nat} {e e1 e2 : Int} {x x' : α} {y : β}
theorem StepR.bind (h1 : StepR f bs p e x p1 e1) (h2 : StepR (g x) bs p1 e1 y p2 e2) : StepR (bindR f g) bs p e y p2 e2 := by
  rcases h1 with ⟨a1, a2, a3⟩ | ⟨a1, n, a2, a3, a4⟩ | ⟨a1, a2, a3⟩
  · subst a2 a3
    rcases h2 with ⟨b1, b2, b3⟩ | ⟨b1, _⟩ | ⟨b1, _⟩
    · exact .inl ⟨b1, b2, b3⟩
    · exact absurd b1 a1
    · exact absurd b1 a1
  · subst a3 a4
    rcases h2 with ⟨b1, b2, b3⟩ | ⟨b1, m, b2, b3, b4⟩ | ⟨b1, b2, b3⟩
    · exact absurd rfl b1
    · refine .inr (.inl ⟨a1, n + m, ?_, by omega, b4⟩)
      unfold bindR
      rw [a2]
      simp only [List.drop_drop]
      rw [b2]
    · refine .inr (.inr ⟨a1, ?_, b3⟩)
      unfold bindR
      rw [a2]
      simp only [List.drop_drop]
      rw [b2]
  · rcases h2 with ⟨b1, b2, b3⟩ | ⟨b1, _⟩ | ⟨b1, _⟩
    · subst b3
      refine .inr (.inr ⟨a1, ?_, a3⟩)
      unfold bindR
      rw [a2]
    · exact absurd b1 a3
    · exact absurd b1 a3
theorem StepR.ret (x : α) : StepR (retR x) bs p e x p e := by
  by_cases h : e = 0
  · exact .inr (.inl ⟨h, 0, rfl, rfl, h⟩)
  · exact .inl ⟨h, rfl, rfl⟩
theorem StepR.stay (h : e ≠ 0) : StepR f bs p e x p e := .inl ⟨h, rfl, rfl⟩
theorem StepR.junk (h : StepR f bs p e x p1 e1) (he : e1 ≠ 0) : StepR f bs p e x' p1 e1 := by
  rcases h with h | ⟨_, _, _, _, h⟩ | h
  · exact .inl h
  · exact absurd h he
  · exact .inr (.inr h)
theorem StepR.snoc {j : Nat} {xs : List α} (h1 : StepR (rep f j) bs p e xs p1 e1) (h2 : StepR f bs p1 e1 x p2 e2) : StepR (rep f (j + 1)) bs p e (xs ++ [x]) p2 e2 := by
  rw [rep_snoc]
  exact h1.bind (h2.bind (StepR.ret _))
theorem StepR.skip [Inhabited α] {n : Nat} : ∀ {j : Nat} {xs ys : List α}, j ≤ n → StepR (rep f j) bs p e xs p1 e1 → e1 ≠ 0 → StepR (rep f n) bs p e ys p1 e1 := by
  intro j xs ys hj h he
  induction n with
  | zero =>
    have : j = 0 := by omega
    subst this; exact h.junk he
  | succ n ih =>
    by_cases hjn : j = n + 1
    · subst hjn; exact h.junk he
    · exact ((ih (by omega)).snoc (x := default) (StepR.stay he)).junk he
theorem StepR.ok (h : StepR f bs p 0 x p1 e1) : (∃ n, f (bs.drop p) = .ok x n ∧ p1 = p + n ∧ e1 = 0) ∨ (f (bs.drop p) = .err e1 ∧ e1 ≠ 0) := by
  rcases h with ⟨h, _⟩ | ⟨_, h⟩ | ⟨_, h⟩
  · exact absurd rfl h
  · exact .inl h
  · exact .inr h
end
theorem numb_bad {lo hi : Int} {b : Bytes} {e : Int} : getN b = .err e → numb lo hi b = .err e := fun h => by unfold numb; rw [h]
theorem getZ_bad : ∀ (b : Bytes) (i acc : Nat) (e : Int), getZ i acc b = .err e → e = 30 ∨ e = 31
  | [], i, acc, e, h => by cases h; exact .inl rfl
  | c :: r, i, acc, e, h => by
    rw [getZ] at h
    split at h
    · cases h; exact .inr rfl
    split at h
    · exact getZ_bad r _ _ e h
    split at h
    · cases h; exact .inr rfl
    · cases h
theorem getN_bad {b : Bytes} {e : Int} (h : getN b = .err e) : e = 30 ∨ e = 31 := by
  unfold getN at h
  split at h
  · cases h
  · rename_i h2
    cases h
    exact getZ_bad _ _ _ _ h2
/-! ### The program's reader -/
variable {S F G : Nat → Prop} {h0 h h1 : Heap} {L R L' : List A} {a b : Option Addr} {l c l2 c2 p t at_ : Nat} {bs cs : List UInt8} {e : Int} {ev : Ev} {v : Val}
abbrev RdrA (t p : Nat) (a : Option Addr) (l c : Nat) (at_ : Nat) (e : Int) : A := A.blk p #[.slice a l c, .int .i64 (at_ : Int), .int .i64 e] t
/-- What every call of a reader asks. -/
structure RdOk (F : Nat → Prop) (h : Heap) (a : Option Addr) (l c : Nat) (bs : Bytes) (at_ : Nat) : Prop where
  ro : Ro F h a (bytesV bs)
  len : bs.length = l
  lc : l ≤ c
  big : l ≤ 1099511627776
  at_ : at_ ≤ l
theorem RdOk.mod {at2 : Nat} (k : RdOk F h a l c bs at_) (m : Mod F h h1) (h2 : at2 ≤ l) : RdOk F h1 a l c bs at2 := ⟨k.ro.mod m, k.len, k.lc, k.big, h2⟩
theorem RdOk.at {at2 : Nat} (k : RdOk S h0 a l c bs at_) (m : Mod S h0 h) (hf : ∀ b, F b → S b ∨ h0.size ≤ b) (h2 : at2 ≤ l) : RdOk F h a l c bs at2 := ⟨k.ro.at m hf, k.len, k.lc, k.big, h2⟩
theorem fail_spec (k : Holds [RdrA t p a l c at_ e] F h) (e2 : Int) : CallsH Tryz.prog 153 #[.pointer (some ⟨p, 0, none⟩), .int .i64 e2] h (fun v h' => v = .tuple #[] ∧ St F h h' [RdrA t p a l c at_ (if e = 0 then e2 else e)]) := by
  refine vf153 _ _ h _ ?_
  unfold F153
  have k := St.start k
  refine VSome.mk ⟨_, k.rd (by rfl), cond_split (fun hc => ?_) (fun hc => ?_)⟩
  · have hc : e = 0 := by simpa using hc
    rw [if_pos hc]
    exact VSome.mk (k.vst (Nat.le_of_ble_eq_true (by rfl)) fun _ k => ⟨rfl, k⟩)
  · have hc : e ≠ 0 := by simpa using hc
    rw [if_neg hc]
    exact ⟨rfl, k⟩
theorem drop_take_all {l at_ : Nat} (hl : bs.length = l) : (bs.take l).drop at_ = bs.drop at_ := by rw [List.take_of_length_le (by omega)]
theorem number_step {lo hi : Int} (k : Holds [RdrA t p a l c at_ e] F h) (r : RdOk F h a l c bs at_) : CallsH Tryz.prog 152 #[.pointer (some ⟨p, 0, none⟩), .int .i64 lo, .int .i64 hi] h
    (fun v h' => ∃ x at2 e2, v = .int .i64 x ∧ at2 ≤ l ∧ StepR (numb lo hi) bs at_ e x at2 e2 ∧ (e2 ≠ 0 → x = 0) ∧ St F h h' [RdrA t p a l c at2 e2]) := by
  refine vf152 _ _ _ h _ ?_
  unfold F152
  have k := St.start k
  refine VSome.mk ⟨_, k.rd (by rfl), cond_split (fun hc => ?_) (fun hc => ?_)⟩
  · have hc : e ≠ 0 := by simpa using hc
    exact ⟨0, at_, e, rfl, r.at_, .stay hc, fun _ => rfl, k⟩
  have hc : e = 0 := by simpa using hc
  subst hc
  refine VSome.mk ⟨_, _, _, k.rd (by rfl), VSome.mk ⟨_, k.rd (by rfl), ?_⟩⟩
  refine r.ro.bcut r.len (lo := at_) (hi := l) (mx := c) rfl rfl rfl r.at_ (by omega) r.lc (by omega) fun a' r2 hlen => ?_
  rw [drop_take_all r.len] at r2 hlen
  have hbig := r.big
  refine CallsH.mono (int_spec r2.sl hlen (by omega)) ?_
  rintro _ _ ⟨rfl, rfl⟩
  cases hg : getN (bs.drop at_) with
  | err e2 =>
    have he2 : e2 ≠ 0 := by have := getN_bad hg; omega
    refine ⟨_, _, _, rfl, cond_true (by simpa using he2) ?_⟩
    obtain ⟨F', G, k1, kG, d, hF, back⟩ := k.frameA
    refine CallsH.mono (fail_spec k1 e2) ?_
    rintro _ h2 ⟨rfl, k2⟩
    have k := back k2
    rw [if_pos rfl] at k
    exact ⟨rfl, 0, at_, e2, rfl, r.at_, .inr (.inr ⟨rfl, numb_bad hg, he2⟩), fun _ => rfl, k⟩
  | ok x n =>
    have hle := Form.num.le hg
    rw [hlen] at hle
    have hat := r.at_
    refine ⟨_, _, _, rfl, cond_false rfl ?_⟩
    refine cond_split (fun hc => ?_) (fun hc => ?_)
    · have hx : x < lo ∨ hi < x := .inl (of_decide_eq_true hc)
      obtain ⟨F', G, k1, kG, d, hF, back⟩ := k.frameA
      refine CallsH.mono (fail_spec k1 31) ?_
      rintro _ h2 ⟨rfl, k2⟩
      have k := back k2
      rw [if_pos rfl] at k
      refine ⟨rfl, 0, at_, 31, rfl, r.at_, .inr (.inr ⟨rfl, ?_, by omega⟩), fun _ => rfl, k⟩
      unfold numb
      rw [hg]
      exact if_pos hx
    have h1 : ¬ x < lo := of_decide_eq_false hc
    refine cond_split (fun hc => ?_) (fun hc => ?_)
    · have hx : x < lo ∨ hi < x := .inr (of_decide_eq_true hc)
      obtain ⟨F', G, k1, kG, d, hF, back⟩ := k.frameA
      refine CallsH.mono (fail_spec k1 31) ?_
      rintro _ h2 ⟨rfl, k2⟩
      have k := back k2
      rw [if_pos rfl] at k
      refine ⟨rfl, 0, at_, 31, rfl, r.at_, .inr (.inr ⟨rfl, ?_, by omega⟩), fun _ => rfl, k⟩
      unfold numb
      rw [hg]
      exact if_pos hx
    have h2 : ¬ hi < x := of_decide_eq_false hc
    refine VSome.mk ⟨_, k.rd (by rfl), VSome.mk (k.vst (Nat.le_of_ble_eq_true (by rfl)) fun _ k => ⟨x, at_ + n, 0, rfl, by omega, .inr (.inl ⟨rfl, n, ?_, rfl, rfl⟩), fun h => absurd rfl h, ?_⟩)⟩
    · unfold numb
      rw [hg]
      exact if_neg (by omega)
    · have e1 : IntKind.i64.wrap ((at_ : Int) + (n : Int)) = ((at_ + n : Nat) : Int) := by rw [wrap_id (by omega) (by omega)]; omega
      rw [e1] at k
      exact k
theorem bytes_step {n : Nat} (k : Holds [RdrA t p a l c at_ e] F h) (r : RdOk F h a l c bs at_) (hn : n ≤ 1099511627776) : CallsH Tryz.prog 151 #[.pointer (some ⟨p, 0, none⟩), .int .i64 (n : Int)] h
    (fun v h' => ∃ s at2 e2, v = .string (bA s) ∧ at2 ≤ l ∧ StepR (takeB n) bs at_ e s at2 e2 ∧ (e2 ≠ 0 → s = []) ∧ St F h h' [RdrA t p a l c at2 e2]) := by
  refine vf151 _ _ h _ ?_
  unfold F151
  have k := St.start k
  have hat := r.at_
  have hlen := r.len
  have hbig := r.big
  have ew : IntKind.i64.wrap ((l : Int) - (at_ : Int)) = ((l - at_ : Nat) : Int) := by rw [wrap_id (by omega) (by omega)]; omega
  have hdl : (bs.drop at_).length = l - at_ := by rw [List.length_drop, hlen]
  refine ⟨fun h' => (e ≠ 0 ∧ St F h h' [RdrA t p a l c at_ e]) ∨ (e = 0 ∧ l - at_ < n ∧ St F h h' [RdrA t p a l c at_ 30]) ∨ (e = 0 ∧ n ≤ l - at_ ∧ St F h h' [RdrA t p a l c at_ 0]), ?_, ?_⟩
  · refine VSome.mk ⟨_, k.rd (by rfl), cond_split (fun hc => ?_) (fun hc => ?_)⟩
    · have hc : e = 0 := by simpa using hc
      subst hc
      refine VSome.mk ⟨_, _, _, k.rd (by rfl), VSome.mk ⟨_, k.rd (by rfl), ?_⟩⟩
      rw [ew]
      refine cond_split (fun hc => ?_) (fun hc => ?_)
      · have hc : l - at_ < n := by
          have : (n : Int) > ((l - at_ : Nat) : Int) := of_decide_eq_true hc
          omega
        obtain ⟨F', G, k1, kG, d, hF, back⟩ := k.frameA
        refine CallsH.mono (fail_spec k1 30) ?_
        rintro _ h2 ⟨rfl, k2⟩
        have k := back k2
        rw [if_pos rfl] at k
        exact ⟨rfl, .inr (.inl ⟨rfl, hc, k⟩)⟩
      · have hc : n ≤ l - at_ := by
          have : ¬ (n : Int) > ((l - at_ : Nat) : Int) := of_decide_eq_false hc
          omega
        exact .inr (.inr ⟨rfl, hc, k⟩)
    · have hc : e ≠ 0 := by simpa using hc
      exact .inl ⟨hc, k⟩
  clear k
  rintro h' _ (⟨he, k⟩ | ⟨rfl, hn2, k⟩ | ⟨rfl, hn2, k⟩)
  · exact VSome.mk ⟨_, k.rd (by rfl), cond_true (by simpa using he) ⟨[], at_, e, rfl, hat, .stay he, fun _ => rfl, k⟩⟩
  · refine VSome.mk ⟨_, k.rd (by rfl), cond_true (by simp) ⟨[], at_, 30, rfl, hat, .inr (.inr ⟨rfl, ?_, by omega⟩), fun _ => rfl, k⟩⟩
    unfold takeB
    rw [if_pos (by omega)]
  · refine VSome.mk ⟨_, k.rd (by rfl), cond_false (by simp) (VSome.mk ⟨_, k.rd (by rfl), VSome.mk (k.vst (Nat.le_of_ble_eq_true (by rfl)) fun h4 k => ?_)⟩)⟩
    have e1 : IntKind.i64.wrap ((at_ : Int) + (n : Int)) = ((at_ + n : Nat) : Int) := by rw [wrap_id (by omega) (by omega)]; omega
    rw [e1] at k
    have k : St F h h4 [RdrA t p a l c (at_ + n) 0] := k
    refine VSome.mk ⟨_, _, _, k.rd (by rfl), VSome.mk ⟨_, k.rd (by rfl), VSome.mk ⟨_, k.rd (by rfl), ?_⟩⟩⟩
    have e2 : IntKind.i64.wrap (((at_ + n : Nat) : Int) - (n : Int)) = (at_ : Int) := by rw [wrap_id (by omega) (by omega)]; omega
    have hlc := r.lc
    refine (r.ro.mod k.ext).bcut hlen (lo := at_) (hi := at_ + n) (mx := c) e2 rfl rfl (by omega) (by omega) (by omega) (by omega) fun a' r2 hl2 => ?_
    have e3 : (bs.take (at_ + n)).drop at_ = (bs.drop at_).take n := by rw [List.drop_take]; congr 1; omega
    rw [e3] at r2 hl2
    refine bytes_text und30 (by kernel_rfl) und9 r2.sl hl2 ⟨_, rfl, (bs.drop at_).take n, at_ + n, 0, rfl, by omega, .inr (.inl ⟨rfl, n, ?_, rfl, rfl⟩), fun h => absurd rfl h, k⟩
    unfold takeB
    rw [if_neg (by omega)]
end Go.Proofs.YtgdgebmlcgohhaaGreatDoor.F
/-! ## Package wire: events are read by the program: values, events. -/
namespace Go.Proofs.YtgdgebmlcgohhaaGreatDoor.F
open Go Go.VC Go.Proofs
set_option linter.unusedSimpArgs false
set_option linter.unusedVariables false
set_option maxRecDepth 100000
attribute [local irreducible] CallsH RunsTo PureTo

variable {S F G : Nat → Prop} {h0 h h1 : Heap} {L R L' : List A} {a b : Option Addr} {l c l2 c2 p t at_ : Nat} {bs cs : List UInt8} {e : Int} {ev : Ev} {v : Val}
theorem und25 : Tryz.prog.underlying 112 = some (.slice 127) := by kernel_rfl
theorem T25 : SlTy Tryz.prog 112 127 4 40 (.agg (valV noVal).toArray) := ⟨und25, by kernel_rfl, rfl, by omega, by omega⟩
abbrev VV (a : Option Addr) (l c : Nat) (vs : List Val) : A := A.vec 127 4 a l c (vs.flatMap valV)
theorem oneC_val (x : Val) : ∀ w ∈ valV x, oneC w = true := by
  intro w hw
  simp only [valV, List.mem_cons, List.not_mem_nil, or_false] at hw
  rcases hw with rfl | rfl | rfl | rfl <;> rfl
/-- One value more. -/
theorem app_val {x : Val} {bb : Nat} {vs : List Val} (k : St S h0 h (A.blk bb (valV x).toArray 127 :: VV a l c vs :: R)) (hb : l + 1 ≤ 1099511627776) {K : KV}
    (q : ∀ a' c' h', St S h0 h' (VV a' (l + 1) c' (vs ++ [x]) :: R) → K (.slice a' (l + 1) c') h') : RunsTo Tryz.prog (Builtin.append_ #[112, 112] 112 #[.slice a l c, .slice (some ⟨bb, 0, none⟩) 1 1]) h K := by
  have hsl : Sl h (some ⟨bb, 0, none⟩) (valV x) := k.slB (b := bb)
  refine k.pull1.app T25 und25 (by simp) (Src.slice hsl rfl) (oneC_val x) (by omega) fun a' c' h' k => q a' c' h' ?_
  have e : vs.flatMap valV ++ valV x = (vs ++ [x]).flatMap valV := by rw [List.flatMap_append]; simp
  rw [e] at k
  exact k.pull1.drop
theorem takeB_one (b : Bytes) : takeB 1 b = match b with | [] => .err 30 | c :: _ => .ok [c] 1 := by
  unfold takeB
  cases b with
  | nil => rfl
  | cons c r => simp
theorem one_step {lo hi : Nat} (k : Holds [RdrA t p a l c at_ e] F h) (r : RdOk F h a l c bs at_) : CallsH Tryz.prog 157 #[.pointer (some ⟨p, 0, none⟩), .int .u8 (lo : Int), .int .u8 (hi : Int)] h
    (fun v h' => ∃ (x : UInt8) (at2 : Nat) (e2 : Int), v = .int .u8 (x.toNat : Int) ∧ at2 ≤ l ∧ StepR (oneR lo hi) bs at_ e x at2 e2 ∧ St F h h' [RdrA t p a l c at2 e2]) := by
  refine vf157 _ _ _ h _ ?_
  unfold F157
  refine CallsH.mono (bytes_step (n := 1) k r (by omega)) ?_
  rintro _ h2 ⟨s, at2, e2, rfl, hat, hst, hs, k⟩
  refine ⟨_, rfl, VSome.mk ⟨_, k.rd (by rfl), cond_split (fun hc => ?_) (fun hc => ?_)⟩⟩
  · have hc : e2 ≠ 0 := by simpa using hc
    refine ⟨0, at2, e2, rfl, hat, ?_, k⟩
    rcases hst with h | ⟨_, _, _, _, h⟩ | ⟨h1, h2, h3⟩
    · exact .inl h
    · exact absurd h hc
    · refine .inr (.inr ⟨h1, ?_, h3⟩)
      rw [takeB_one] at h2
      cases hd : bs.drop at_ with
      | nil => rw [hd] at h2; cases h2; rfl
      | cons c r => rw [hd] at h2; cases h2
  have hc : e2 = 0 := by simpa using hc
  subst hc
  obtain ⟨rfl, x, hd, rfl, rfl⟩ : e = 0 ∧ ∃ x, bs.drop at_ = x :: bs.drop (at_ + 1) ∧ s = [x] ∧ at2 = at_ + 1 := by
    rcases hst with ⟨h, _, h2⟩ | ⟨h0, n, h1, h2, _⟩ | ⟨_, _, h⟩
    · exact absurd h2.symm h
    · refine ⟨h0, ?_⟩
      rw [takeB_one] at h1
      cases hd : bs.drop at_ with
      | nil => rw [hd] at h1; cases h1
      | cons c r =>
        rw [hd] at h1; cases h1
        refine ⟨c, ?_, rfl, h2⟩
        have : bs.drop (at_ + 1) = (bs.drop at_).drop 1 := by rw [List.drop_drop]
        rw [this, hd]; rfl
    · exact absurd rfl h
  have h0 : (bA [x])[Int.toNat 0]? = some x := rfl
  refine ⟨fun h' => (x.toNat < lo ∨ hi < x.toNat) ∧ St F h h' [RdrA t p a l c (at_ + 1) 31] ∨ ¬ (x.toNat < lo ∨ hi < x.toNat) ∧ St F h h' [RdrA t p a l c (at_ + 1) 0], ⟨by omega, x, h0, ?_⟩, ?_⟩
  · refine cond_split (fun hc => ?_) (fun hc => ⟨by omega, x, h0, cond_split (fun hc2 => ?_) (fun hc2 => ?_)⟩)
    · have hx : x.toNat < lo := by
        have : (x.toNat : Int) < lo := of_decide_eq_true hc
        omega
      obtain ⟨F', G, k1, kG, d, hF, back⟩ := k.frameA
      refine CallsH.mono (fail_spec k1 31) ?_
      rintro _ h2 ⟨rfl, k2⟩
      exact ⟨rfl, .inl ⟨.inl hx, back k2⟩⟩
    · have hx : hi < x.toNat := by
        have : (x.toNat : Int) > hi := of_decide_eq_true hc2
        omega
      obtain ⟨F', G, k1, kG, d, hF, back⟩ := k.frameA
      refine CallsH.mono (fail_spec k1 31) ?_
      rintro _ h2 ⟨rfl, k2⟩
      exact ⟨rfl, .inl ⟨.inr hx, back k2⟩⟩
    · have h1 : ¬ (x.toNat : Int) < lo := of_decide_eq_false hc
      have h2 : ¬ (x.toNat : Int) > hi := of_decide_eq_false hc2
      exact .inr ⟨by omega, k⟩
  · rintro h' _ (⟨hx, k⟩ | ⟨hx, k⟩)
    · refine ⟨by omega, x, h0, x, _, 31, rfl, hat, .inr (.inr ⟨rfl, ?_, by omega⟩), k⟩
      rw [hd]
      exact if_pos hx
    · refine ⟨by omega, x, h0, x, _, 0, rfl, hat, .inr (.inl ⟨rfl, 1, ?_, rfl, rfl⟩), k⟩
      rw [hd]
      exact if_neg hx
theorem StepR.rng {lo hi x : Int} {at2 : Nat} {e2 : Int} (h : StepR (numb lo hi) bs at_ e x at2 e2) (hz : e2 ≠ 0 → x = 0) (h1 : 0 ≤ lo) (h2 : 0 ≤ hi) (h3 : hi < 9223372036854775808) : 0 ≤ x ∧ x ≤ hi := by
  by_cases he : e2 = 0
  · subst he
    rcases h with ⟨h, _, h4⟩ | ⟨_, n, h4, _⟩ | ⟨_, _, h⟩
    · exact absurd h4.symm h
    · obtain ⟨h5, _⟩ := (Form.numb (lo := lo) (by omega) h3).pg _ _ _ h4
      omega
    · exact absurd rfl h
  · rw [hz he]; omega
abbrev zeroV : Array Value := #[.int .i64 0, .int .i64 0, .string (ByteArray.mk #[]), .bool false]
theorem value_step (k : Holds [RdrA t p a l c at_ e] F h) (r : RdOk F h a l c bs at_) : CallsH Tryz.prog 154 #[.pointer (some ⟨p, 0, none⟩)] h
    (fun v h' => ∃ (x : Val) (at2 : Nat) (e2 : Int), v = aggV x ∧ at2 ≤ l ∧ StepR valR bs at_ e x at2 e2 ∧ St F h h' [RdrA t p a l c at2 e2]) := by
  refine vf154 _ h _ ?_
  unfold F154
  have k := St.start k
  refine k.vnew fun b1 h2 k => ?_
  obtain ⟨F', G, k1, kG, d, hF, back⟩ := k.pull1.frameA
  refine CallsH.mono (one_step (lo := 1) (hi := 3) k1 (r.at k.ext hF r.at_)) ?_
  rintro _ h3 ⟨x, at2, e2, rfl, hat2, s1, k2⟩
  have k := back k2
  clear back k1 kG d hF
  have ex : IntKind.i64.wrap (x.toNat : Int) = (x.toNat : Int) := by have := x.toNat_lt; rw [wrap_id (by omega) (by omega)]
  refine ⟨_, rfl, ?_⟩
  rw [ex]
  refine (k.vnew fun b6 h4 k => k.vall (by rfl) (by rfl) fun h5 k => VSome.mk ⟨_, k.rd (by rfl), cond_split (fun hc => ?_) (fun hc => ?_)⟩)
  · have hc : e2 ≠ 0 := by simpa using hc
    refine k.vall (by rfl) (by rfl) fun h6 k => ⟨_, k.rd (by rfl), _, k.rd (by rfl), _, k.rd (by rfl), _, k.rd (by rfl), noVal, at2, e2, rfl, hat2, ?_, k.pull1.only⟩
    exact (s1.bind (y := noVal) (StepR.stay hc))
  have hc : e2 = 0 := by simpa using hc
  subst hc
  have hx13 : 1 ≤ x.toNat ∧ x.toNat ≤ 3 := by
    rcases s1 with ⟨h, _, h4⟩ | ⟨_, n, h4, _⟩ | ⟨_, _, h⟩
    · exact absurd h4.symm h
    · exact ((Form.one 1 3).pg _ _ _ h4).1
    · exact absurd rfl h
  refine ⟨fun h' => ∃ (v : Val) (at2 : Nat) (e2 : Int), at2 ≤ l ∧ StepR valR bs at_ e v at2 e2 ∧ St F h h' [RdrA t p a l c at2 e2, A.blk b6 (valV v).toArray 127, A.blk b1 zeroV 127], ⟨_, k.rd (by rfl), ?_⟩, ?_⟩
  rotate_left
  · clear k
    rintro h' _ ⟨v, at3, e3, hat3, s2, k⟩
    refine ⟨_, k.rd (by rfl), _, k.rd (by rfl), _, k.rd (by rfl), _, k.rd (by rfl), k.vall (by rfl) (by rfl) fun h6 k => ⟨_, k.rd (by rfl), _, k.rd (by rfl), _, k.rd (by rfl), _, k.rd (by rfl), v, at3, e3, rfl, hat3, s2, k.only⟩⟩
  refine cond_split (fun hc => ?_) (fun hc => ?_)
  · have hx : x.toNat = 1 := by
      have : (x.toNat : Int) = 1 := by simpa using hc
      omega
    obtain ⟨F', G, k1, kG, d, hF, back⟩ := k.pull1.frameA
    refine CallsH.mono (number_step k1 (r.at k.ext hF hat2)) ?_
    rintro _ h6 ⟨n, at3, e3, rfl, hat3, s2, hz, k2⟩
    have k := back k2
    refine ⟨_, rfl, k.vst (Nat.le_of_ble_eq_true (by rfl)) fun h7 k => ⟨⟨1, n, [], false⟩, at3, e3, hat3, s1.bind ?_, ?_⟩⟩
    · rw [if_pos hx]
      exact s2.bind (.ret _)
    · rw [hx] at k; exact k
  have hx1 : x.toNat ≠ 1 := by
    have : (x.toNat : Int) ≠ 1 := by simpa using hc
    omega
  clear hc
  refine cond_split (fun hc => ?_) (fun hc => ?_)
  · have hx : x.toNat = 2 := by
      have : (x.toNat : Int) = 2 := by simpa using hc
      omega
    obtain ⟨F', G, k1, kG, d, hF, back⟩ := k.pull1.frameA
    refine CallsH.mono (number_step k1 (r.at k.ext hF hat2)) ?_
    rintro _ h6 ⟨n, at3, e3, rfl, hat3, s2, hz, k2⟩
    have k := back k2
    clear back k1 kG d hF
    have hn := s2.rng hz (by omega) (by omega) (by omega)
    obtain ⟨m, rfl⟩ : ∃ m : Nat, n = m := ⟨n.toNat, by omega⟩
    refine ⟨_, rfl, ?_⟩
    obtain ⟨F', G, k1, kG, d, hF, back⟩ := k.frameA
    refine CallsH.mono (bytes_step (n := m) k1 (r.at k.ext hF hat3) (by omega)) ?_
    rintro _ h7 ⟨s, at4, e4, rfl, hat4, s3, hs, k2⟩
    have k := back k2
    refine ⟨_, rfl, k.vst (Nat.le_of_ble_eq_true (by rfl)) fun h7 k => ⟨⟨2, 0, s, false⟩, at4, e4, hat4, s1.bind ?_, ?_⟩⟩
    · rw [if_neg hx1, if_pos hx]
      exact (s2.bind s3).bind (.ret _)
    · rw [hx] at k; exact k
  have hx2 : x.toNat ≠ 2 := by
    have : (x.toNat : Int) ≠ 2 := by simpa using hc
    omega
  have hx : x.toNat = 3 := by omega
  obtain ⟨F', G, k1, kG, d, hF, back⟩ := k.pull1.frameA
  refine CallsH.mono (one_step (lo := 0) (hi := 1) k1 (r.at k.ext hF hat2)) ?_
  rintro _ h6 ⟨y, at3, e3, rfl, hat3, s2, k2⟩
  have k := back k2
  have eb : ((y.toNat : Int) == 1) = decide (y.toNat = 1) := by rw [Bool.eq_iff_iff]; simp; omega
  refine ⟨_, rfl, ?_⟩
  rw [eb]
  refine (k.vst (Nat.le_of_ble_eq_true (by rfl)) fun h7 k => ⟨⟨3, 0, [], decide (y.toNat = 1)⟩, at3, e3, hat3, s1.bind ?_, ?_⟩)
  · rw [if_neg hx1, if_neg hx2]
    exact s2.bind (.ret _)
  · rw [hx] at k; exact k
theorem event_step (hw : Wd F h) (k : Holds [RdrA t p a l c at_ e] F h) (r : RdOk F h a l c bs at_) : CallsH Tryz.prog 143 #[.pointer (some ⟨p, 0, none⟩)] h
    (fun v h' => ∃ (x : Ev) (a' : Option Addr) (c' at2 : Nat) (e2 : Int), v = aggE x a' x.vs.length c' ∧ at2 ≤ l ∧ StepR evR bs at_ e x at2 e2 ∧ x.vs.length ≤ 16 ∧ St F h h' [RdrA t p a l c at2 e2, VV a' x.vs.length c' x.vs]) := by
  refine vf143 _ h _ ?_
  unfold F143
  have k := St.start k
  refine k.vnew fun b1 h2 k => k.vnew fun b3 h3 k => ?_
  obtain ⟨F', G, k1, kG, d, hF, back⟩ := k.pull2.frameA
  refine CallsH.mono (number_step k1 (r.at k.ext hF r.at_)) ?_
  rintro _ h4 ⟨n, at1, e1, rfl, hat1, s1, hz1, k2⟩
  have k := back k2
  clear back k1 kG d hF
  have hn := s1.rng hz1 (by omega) (by omega) (by omega)
  obtain ⟨m, rfl⟩ : ∃ m : Nat, n = m := ⟨n.toNat, by omega⟩
  refine ⟨_, rfl, ?_⟩
  obtain ⟨F', G, k1, kG, d, hF, back⟩ := k.frameA
  refine CallsH.mono (bytes_step (n := m) k1 (r.at k.ext hF hat1) (by omega)) ?_
  rintro _ h5 ⟨tx, at2, e2, rfl, hat2, s2, hs, k2⟩
  have k := back k2
  clear back k1 kG d hF
  have s2 : StepR (textR 1 32) bs at_ e tx at2 e2 := s1.bind s2
  clear s1 hz1 hn hs
  refine ⟨_, rfl, k.vst (Nat.le_of_ble_eq_true (by rfl)) fun h6 k => ?_⟩
  refine ⟨fun h' => ∃ (e3 : Int), StepR nameR bs at_ e tx at2 e3 ∧ St F h h' [RdrA t p a l c at2 e3, A.blk b3 #[.string (bA tx), .int .i64 0, .slice none 0 0] 125, A.blk b1 #[.string (ByteArray.mk #[]), .int .i64 0, .slice none 0 0] 125], ⟨_, k.rd (by rfl), ?_⟩, ?_⟩
  · refine CallsH.mono (name_spec (hw.mod k.ext) tx) ?_
    rintro _ _ ⟨rfl, rfl⟩
    refine ⟨_, rfl, cond_split (fun hc => ?_) (fun hc => ?_)⟩
    · have hc : nameOk tx = false := by simpa using hc
      obtain ⟨F', G, k1, kG, d, hF, back⟩ := k.frameA
      refine CallsH.mono (fail_spec k1 31) ?_
      rintro _ h7 ⟨rfl, k2⟩
      refine ⟨rfl, _, s2.bind ?_, back k2⟩
      rw [if_neg (by simp [hc])]
      by_cases he : e2 = 0
      · subst he
        rw [if_pos rfl]
        exact .inr (.inr ⟨rfl, rfl, by omega⟩)
      · rw [if_neg he]
        exact .stay he
    · have hc : nameOk tx = true := by simpa using hc
      refine ⟨_, s2.bind ?_, k⟩
      rw [if_pos hc]
      exact .ret _
  clear k s2
  rintro h7 _ ⟨e3, s3, k⟩
  obtain ⟨F', G, k1, kG, d, hF, back⟩ := k.frameA
  refine CallsH.mono (number_step k1 (r.at k.ext hF hat2)) ?_
  rintro _ h8 ⟨tm, at4, e4, rfl, hat4, s4, hz4, k2⟩
  have k := back k2
  clear back k1 kG d hF
  refine ⟨_, rfl, k.vst (Nat.le_of_ble_eq_true (by rfl)) fun h9 k => ?_⟩
  obtain ⟨F', G, k1, kG, d, hF, back⟩ := k.frameA
  refine CallsH.mono (number_step k1 (r.at k.ext hF hat4)) ?_
  rintro _ h10 ⟨n, at5, e5, rfl, hat5, s5, hz5, k2⟩
  have k := back k2
  clear back k1 kG d hF
  have hn := s5.rng hz5 (by omega) (by omega) (by omega)
  obtain ⟨N, rfl⟩ : ∃ N : Nat, n = N := ⟨n.toNat, by omega⟩
  have hN : N ≤ 16 := by omega
  refine ⟨_, rfl, ?_⟩
  refine ⟨fun n h' i => ∃ (vs : List Val) (a' : Option Addr) (c' at6 : Nat) (e6 : Int), i = (vs.length : Int) ∧ vs.length ≤ N ∧ n = N - vs.length ∧ at6 ≤ l ∧ StepR (rep valR vs.length) bs at5 e5 vs at6 e6 ∧
      St F h h' [RdrA t p a l c at6 e6, A.blk b3 #[.string (bA tx), .int .i64 tm, .slice a' vs.length c'] 125, VV a' vs.length c' vs, A.blk b1 #[.string (ByteArray.mk #[]), .int .i64 0, .slice none 0 0] 125],
    ⟨_, [], none, 0, at5, e5, rfl, by simp, rfl, hat5, .ret _, ?_⟩, ?_⟩
  · exact (k.vnil 127 (sz := 4) (by omega)).sel 4 [1, 2, 0, 3] rfl (by decide) (by rfl)
  clear k
  rintro n h11 _ _ ⟨vs, a', c', at6, e6, rfl, hvN, rfl, hat6, s6, k⟩
  refine cond_split (fun hc => ?_) (fun hc => ?_)
  · have hlt : vs.length < N := Int.ofNat_lt.1 (of_decide_eq_true hc)
    refine ⟨_, _, _, k.rd (by rfl), ?_⟩
    obtain ⟨F', G, k1, kG, d, hF, back⟩ := k.frameA
    refine CallsH.mono (value_step k1 (r.at k.ext hF hat6)) ?_
    rintro _ h12 ⟨x, at7, e7, rfl, hat7, s7, k2⟩
    have k := back k2
    clear back k1 kG d hF
    refine ⟨_, _, _, _, rfl, k.rd (by rfl), k.vnew fun b41 h13 k => ⟨k.rd (by rfl), ?_⟩⟩
    have k := k.sel 5 [0, 3, 1, 2, 4] rfl (by decide) (L' := [A.blk b41 (valV x).toArray 127, VV a' vs.length c' vs, _, _, _]) (by rfl)
    refine app_val k (by omega) fun a2 c2 h14 k => ⟨_, _, _, rfl, k.vst (Nat.le_of_ble_eq_true (by rfl)) fun h15 k => ?_⟩
    have el : (vs ++ [x]).length = vs.length + 1 := by simp
    refine ⟨N - (vs.length + 1), by omega, vs ++ [x], a2, c2, at7, e7, ?_, by omega, by rw [el], hat7, ?_, ?_⟩
    · rw [wrap_id (by omega) (by omega), el]; omega
    · rw [el]; exact s6.snoc s7
    · rw [el]
      exact k.sel 4 [1, 2, 0, 3] rfl (by decide) (by rfl)
  · have hlt : vs.length = N := by
      have : ¬ (vs.length : Int) < N := of_decide_eq_false hc
      omega
    refine ⟨_, k.rd (by rfl), _, k.rd (by rfl), _, _, _, k.rd (by rfl), k.vall (by rfl) (by rfl) fun h15 k => ⟨_, k.rd (by rfl), _, k.rd (by rfl), _, _, _, k.rd (by rfl), ⟨tx, tm, vs⟩, a', c', at6, e6, rfl, hat6, ?_, by show vs.length ≤ 16; omega, ?_⟩⟩
    · rw [hlt] at s6
      exact s3.bind (s4.bind (s5.bind (StepR.bind (f := rep valR N) s6 (.ret _))))
    · exact (k.pull1.drop).only2
/-- What is read of an event. -/
def decB (b : Bytes) : Ev × Nat × Int := match evR b with
  | .ok x n => (x, n, 0)
  | .err e => (noEv, 0, e)
theorem decode_spec (hw : Wd none_ h) (hs : Sl h a (bytesV bs)) (hl : bs.length = l) (hlc : l ≤ c) (hb : l ≤ 1099511627776) : CallsH Tryz.prog 130 #[.slice a l c] h
    (fun v h' => ∃ (a' : Option Addr) (c' : Nat), v = .tuple #[aggE (decB bs).1 a' (decB bs).1.vs.length c', .int .i64 ((decB bs).2.1 : Int), .int .i64 (decB bs).2.2] ∧ St none_ h h' [VV a' (decB bs).1.vs.length c' (decB bs).1.vs]) := by
  refine vf130 _ _ _ h _ ?_
  unfold F130
  have k := St.fresh h
  refine k.vnew fun b1 h2 k => k.vnew fun b3 h3 k => ?_
  obtain ⟨F', G, k1, kG, d, hF, back⟩ := k.frame2
  refine CallsH.mono (event_step (e := 0) (at_ := 0) (hw.at k.ext hF) k1 ⟨hs.ro.at k.ext hF, hl, hlc, hb, Nat.zero_le _⟩) ?_
  rintro _ h4 ⟨x, a', c', at2, e2, rfl, hat, hst, hvl, k2⟩
  have k := back k2
  refine ⟨_, _, _, _, _, rfl, k.vnew fun b10 h5 k => k.vall (by rfl) (by rfl) fun h6 k => ⟨_, k.rd (by rfl), cond_split (fun hc => ?_) (fun hc => ?_)⟩⟩
  · have hc : e2 ≠ 0 := by simpa using hc
    have hd : decB bs = (noEv, 0, e2) := by
      rcases hst.ok with ⟨n, q1, q2, q3⟩ | ⟨q1, q2⟩
      · exact absurd q3 hc
      · unfold decB
        rw [List.drop_zero] at q1
        rw [q1]
    rw [hd]
    refine ⟨_, k.rd (by rfl), k.vall (by rfl) (by rfl) fun h7 k => ⟨k.rd (by rfl), _, k.rd (by rfl), _, k.rd (by rfl), _, _, _, k.rd (by rfl), none, 0, rfl, ?_⟩⟩
    exact (k.vnil 127 (sz := 4) (by omega)).only
  · have hc : e2 = 0 := by simpa using hc
    subst hc
    have hd : decB bs = (x, at2, 0) := by
      rcases hst.ok with ⟨n, q1, q2, q3⟩ | ⟨q1, q2⟩
      · unfold decB
        rw [List.drop_zero] at q1
        rw [q1, q2, Nat.zero_add]
      · exact absurd rfl q2
    rw [hd]
    refine ⟨_, k.rd (by rfl), _, k.rd (by rfl), _, _, _, k.rd (by rfl), _, k.rd (by rfl), k.vall (by rfl) (by rfl) fun h7 k => ⟨k.rd (by rfl), _, k.rd (by rfl), _, k.rd (by rfl), _, _, _, k.rd (by rfl), a', c', rfl, ?_⟩⟩
    exact (k.sel 4 [2, 0, 1, 3] rfl (by decide) (L' := [_, _, _, _]) (by rfl)).only
end Go.Proofs.YtgdgebmlcgohhaaGreatDoor.F
