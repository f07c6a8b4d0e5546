/- Wire's numbers, values, forms, under this seat's numbers. Conditions: none. -/
import Derived.Test.YtgdgebmlcgohhaaDoorN1
import Derived.Test.YtgdgebmlcgohhaaDoorG
import Derived.Test.YtgdgebmlcgohhaaDoorS3
/-! ## Package wire: numbers, in plain Lean. -/
namespace Go.Proofs.YtgdgebmlcgohhaaDoor.F
open Go Go.VC
set_option linter.unusedSimpArgs false
set_option linter.unusedVariables false

abbrev Bytes := List UInt8
/-- The groups of a number. -/
def putZ : Nat → Nat → Bytes
  | 0, z => [UInt8.ofNat z]
  | f + 1, z => if z < 128 then [UInt8.ofNat z] else UInt8.ofNat (128 + z % 128) :: putZ f (z / 128)
/-- A number with its sign behind. -/
def zig (n : Int) : Nat := if 0 ≤ n then 2 * n.toNat else 2 * (-(n + 1)).toNat + 1
def zag (z : Nat) : Int := if z % 2 = 0 then (z / 2 : Nat) else -((z / 2 : Nat) : Int) - 1
theorem zag_zig (n : Int) : zag (zig n) = n := by
  unfold zag zig
  split <;> split <;> omega
theorem zig_zag (z : Nat) : zig (zag z) = z := by
  unfold zag zig
  split <;> split <;> omega
def putN (n : Int) : Bytes := putZ 9 (zig n)
inductive Rd (α : Type) where
  | ok (x : α) (n : Nat)
  | err (e : Int)
/-- A number's groups, read. -/
def getZ : Nat → Nat → Bytes → Rd Nat
  | _, _, [] => .err 30
  | i, z, c :: r =>
    if i = 9 ∧ 1 < c.toNat then .err 31
    else if 128 ≤ c.toNat then getZ (i + 1) (z + (c.toNat % 128) * 128 ^ i) r
    else if c.toNat = 0 ∧ 0 < i then .err 31
    else .ok (z + c.toNat * 128 ^ i) (i + 1)
def getN (b : Bytes) : Rd Int := match getZ 0 0 b with
  | .ok z n => .ok (zag z) n
  | .err e => .err e
theorem zig_lt {n : Int} (h1 : -9223372036854775808 ≤ n) (h2 : n < 9223372036854775808) : zig n < 18446744073709551616 := by
  unfold zig; split <;> omega
theorem zag_lt {z : Nat} (h : z < 18446744073709551616) : -9223372036854775808 ≤ zag z ∧ zag z < 9223372036854775808 := by
  unfold zag; split <;> omega
theorem putZ_len : ∀ (f z : Nat), 1 ≤ (putZ f z).length ∧ (putZ f z).length ≤ f + 1
  | 0, _ => ⟨Nat.le_refl _, Nat.le_refl _⟩
  | f + 1, z => by
    unfold putZ
    split
    · simp
    · have := putZ_len f (z / 128)
      simp only [List.length_cons]; omega
/-- What is written is read. -/
theorem get_put : ∀ (f i z acc : Nat) (x : Bytes), f + i = 9 → z < 2 * 128 ^ f → (0 < i → 0 < z) → getZ i acc (putZ f z ++ x) = .ok (acc + z * 128 ^ i) (i + (putZ f z).length)
  | 0, i, z, acc, x, hf, hz, hp => by
    have hi : i = 9 := by omega
    subst hi
    have hz : z < 2 := by simpa using hz
    have hp := hp (by omega)
    have e : z = 1 := by omega
    subst e
    show getZ 9 acc (UInt8.ofNat 1 :: x) = _
    rw [getZ, if_neg (by decide), if_neg (by decide), if_neg (by decide)]
    rfl
  | f + 1, i, z, acc, x, hf, hz, hp => by
    unfold putZ
    split
    · rename_i h
      have hn : (UInt8.ofNat z).toNat = z := by rw [UInt8.toNat_ofNat']; omega
      rw [List.singleton_append, getZ, hn, if_neg (by omega), if_neg (by omega), if_neg (by omega)]; rfl
    · rename_i h
      have hn : (UInt8.ofNat (128 + z % 128)).toNat = 128 + z % 128 := by rw [UInt8.toNat_ofNat']; omega
      have hz2 : z / 128 < 2 * 128 ^ f := by
        rw [Nat.pow_succ] at hz
        omega
      rw [List.cons_append, getZ, hn, if_neg (by omega), if_pos (by omega), get_put f (i + 1) (z / 128) _ x (by omega) hz2 (fun _ => by omega)]
      have e1 : (128 + z % 128) % 128 = z % 128 := by omega
      have e2 : acc + (128 + z % 128) % 128 * 128 ^ i + z / 128 * 128 ^ (i + 1) = acc + z * 128 ^ i := by
        rw [e1, Nat.pow_succ, Nat.mul_comm (128 ^ i) 128, ← Nat.mul_assoc, Nat.add_assoc, ← Nat.add_mul]
        congr 2
        omega
      rw [e2, List.length_cons]
      congr 1
      omega
/-- What is read would be written so. -/
theorem put_get : ∀ (b : Bytes) (f i acc w n : Nat), f + i = 9 → getZ i acc b = .ok w n → ∃ z, w = acc + z * 128 ^ i ∧ z < 2 * 128 ^ f ∧ (0 < i → 0 < z) ∧ n = i + (putZ f z).length ∧ b.take (putZ f z).length = putZ f z
  | [], f, i, acc, w, n, hf, h => by cases h
  | c :: r, f, i, acc, w, n, hf, h => by
    have hc := c.toNat_lt
    rw [getZ] at h
    split at h
    · cases h
    rename_i h1
    split at h
    · rename_i h2
      obtain ⟨g, rfl⟩ : ∃ g, f = g + 1 := ⟨f - 1, by omega⟩
      obtain ⟨z, e1, e2, e3, e4, e5⟩ := put_get r g (i + 1) _ w n (by omega) h
      have hz := e3 (by omega)
      have hp : putZ (g + 1) (c.toNat % 128 + z * 128) = c :: putZ g z := by
        rw [putZ, if_neg (by omega)]
        congr 1
        · apply UInt8.toNat_inj.1
          rw [UInt8.toNat_ofNat']; omega
        · congr 1; omega
      refine ⟨c.toNat % 128 + z * 128, ?_, ?_, fun _ => by omega, ?_, ?_⟩
      · rw [e1, Nat.pow_succ, Nat.add_mul, Nat.mul_assoc z, Nat.mul_comm 128, Nat.add_assoc]
      · rw [Nat.pow_succ]; omega
      · rw [hp, e4, List.length_cons]; omega
      · rw [hp, List.length_cons, List.take_succ_cons, e5]
    · rename_i h2
      split at h
      · cases h
      rename_i h3
      cases h
      have hp : putZ f c.toNat = [c] := by
        cases f with
        | zero =>
          show [UInt8.ofNat c.toNat] = _
          rw [UInt8.ofNat_toNat]
        | succ f =>
          rw [putZ, if_pos (by omega), UInt8.ofNat_toNat]
      refine ⟨c.toNat, rfl, ?_, fun hi => by omega, by rw [hp]; rfl, by rw [hp]; rfl⟩
      cases f with
      | zero =>
        have : i = 9 := by omega
        subst this
        rw [Nat.pow_zero]; omega
      | succ f =>
        have : 1 ≤ 128 ^ f := Nat.pow_pos (by omega)
        rw [Nat.pow_succ]; omega
/-- Less of it ends too early. -/
theorem get_short : ∀ (b : Bytes) (i acc w n m : Nat), getZ i acc b = .ok w n → i + m < n → getZ i acc (b.take m) = .err 30
  | [], i, acc, w, n, m, h, hm => by cases h
  | c :: r, i, acc, w, n, m, h, hm => by
    rw [getZ] at h
    split at h
    · cases h
    rename_i h1
    cases m with
    | zero => rfl
    | succ m =>
      rw [List.take_succ_cons, getZ, if_neg h1]
      split at h
      · rename_i h2
        rw [if_pos h2]
        exact get_short r (i + 1) _ w n m h (by omega)
      · rename_i h2
        split at h
        · cases h
        · cases h; omega
end Go.Proofs.YtgdgebmlcgohhaaDoor.F
/-! ## Package wire, and the document's: a number is written. -/
namespace Go.Proofs.YtgdgebmlcgohhaaDoor.F
open Go Go.VC Go.Proofs
set_option linter.unusedSimpArgs false
set_option linter.unusedVariables false
set_option maxRecDepth 100000
attribute [local irreducible] CallsH RunsTo PureTo

variable {S F G : Nat → Prop} {h0 h h1 : Heap} {L R L' : List A} {a b : Option Addr} {l c l2 c2 : Nat} {bs cs : List UInt8}
theorem und30 : Tryd.prog.underlying 35 = some (.slice 5) := by kernel_rfl
theorem T30 : SlTy Tryd.prog 35 5 1 1 (.int .u8 0) := ⟨und30, by kernel_rfl, rfl, by omega, by omega⟩
abbrev BV (a : Option Addr) (l c : Nat) (bs : List UInt8) : A := A.vec 5 1 a l c (bytesV bs)
theorem byteV_of (m : Nat) : byteV (UInt8.ofNat m) = .int .u8 ((m : Int) % 256) := by
  simp only [byteV, UInt8.toNat_ofNat']
  congr 1
theorem or128 (z : Nat) : bitsOp .or .u8 ((z : Int) % 256) 128 = ((128 + z % 128 : Nat) : Int) := by
  have key : ∀ x : Fin 256, IntKind.u8.wrap ((BitVec.ofInt 8 (x.val : Int) ||| BitVec.ofInt 8 128).toNat : Int) = ((128 + x.val % 128 : Nat) : Int) := by decide +kernel
  have := key ⟨z % 256, by omega⟩
  show IntKind.u8.wrap ((BitVec.ofInt 8 _ ||| BitVec.ofInt 8 _).toNat : Int) = _
  have e : ((z : Int) % 256) = ((z % 256 : Nat) : Int) := by omega
  rw [e, this]
  simp only
  omega
theorem ofInt64 {a : Int} {n : Nat} (h : a = n) (hn : n < 18446744073709551616) : (BitVec.ofInt 64 a).toNat = n := by
  subst h
  rw [BitVec.toNat_ofInt]; omega
theorem xor_zig {n : Int} (h1 : -9223372036854775808 ≤ n) (h2 : n < 9223372036854775808) :
    bitsOp .xor .u64 (IntKind.u64.wrap (IntKind.u64.wrap n * 2 ^ (min (Int.toNat 1) (IntKind.bits .u64)))) (IntKind.u64.wrap (Int.fdiv n (2 ^ (min (Int.toNat 63) (IntKind.bits .i64))))) = (zig n : Int) := by
  have e1 : (2 : Int) ^ (min (Int.toNat 1) (IntKind.bits .u64)) = 2 := rfl
  have e2 : (2 : Int) ^ (min (Int.toNat 63) (IntKind.bits .i64)) = 9223372036854775808 := rfl
  rw [e1, e2]
  show IntKind.u64.wrap ((BitVec.ofInt 64 _ ^^^ BitVec.ofInt 64 _).toNat : Int) = _
  have hz := zig_lt h1 h2
  rw [Int.fdiv_eq_ediv_of_nonneg _ (by omega)]
  by_cases h : 0 ≤ n
  · have e3 : n / 9223372036854775808 = 0 := by omega
    have e4 : IntKind.u64.wrap 0 = 0 := by rw [wrap_u64]; omega
    have e5 : IntKind.u64.wrap (IntKind.u64.wrap n * 2) = ((zig n : Nat) : Int) := by
      rw [wrap_u64, wrap_u64]; unfold zig; rw [if_pos h]; omega
    have e6 : BitVec.ofInt 64 0 = 0#64 := rfl
    rw [e3, e4, e5, e6, BitVec.xor_zero, ofInt64 rfl hz, wrap_u64]; omega
  · have e3 : n / 9223372036854775808 = -1 := by omega
    have e4 : IntKind.u64.wrap (-1) = 18446744073709551615 := by rw [wrap_u64]; omega
    have e6 : BitVec.ofInt 64 18446744073709551615 = BitVec.allOnes 64 := rfl
    have hx : IntKind.u64.wrap (IntKind.u64.wrap n * 2) = ((18446744073709551615 - zig n : Nat) : Int) := by
      rw [wrap_u64, wrap_u64]; unfold zig; rw [if_neg h]; omega
    rw [e3, e4, e6, hx, BitVec.xor_allOnes, BitVec.toNat_not, ofInt64 rfl (by omega), wrap_u64]; omega
/-- One byte more. -/
theorem app_byte {x : UInt8} {bb : Nat} (k : St S h0 h (A.blk bb #[byteV x] 5 :: BV a l c bs :: R)) (hb : l + 1 ≤ 140737488355328) {K : KV}
    (q : ∀ a' c' h', St S h0 h' (BV a' (l + 1) c' (bs ++ [x]) :: R) → K (.slice a' (l + 1) c') h') : RunsTo Tryd.prog (Builtin.append_ #[35, 35] 35 #[.slice a l c, .slice (some ⟨bb, 0, none⟩) 1 1]) h K := by
  have hsl : Sl h (some ⟨bb, 0, none⟩) (bytesV [x]) := k.slB (b := bb)
  refine k.pull1.app T30 und30 (by simp) (Src.slice hsl rfl) (oneC_bytes [x]) (by omega) fun a' c' h' k => q a' c' h' ?_
  rw [← bytesV_app] at k
  exact k.pull1.drop
theorem putInt_spec {n : Int} (k : Holds [BV a l c bs] F h) (h1 : -9223372036854775808 ≤ n) (h2 : n < 9223372036854775808) (hb : l ≤ 140737488355000) :
    CallsH Tryd.prog 89 #[.slice a l c, .int .i64 n] h (fun v h' => ∃ a' c', v = .slice a' (l + (putN n).length) c' ∧ St F h h' [BV a' (l + (putN n).length) c' (bs ++ putN n)]) := by
  refine vf89 _ _ _ _ h _ ?_
  unfold F89
  rw [xor_zig h1 h2]
  have k := St.start k
  have hz := zig_lt h1 h2
  refine ⟨by omega, by omega, fun m hh b' lb cb z_ => ∃ (z f : Nat) (dn : Bytes), z_ = z ∧ z = m ∧ z < 2 * 128 ^ f ∧ f + dn.length = 9 ∧ dn ++ putZ f z = putN n ∧ lb = l + dn.length ∧ St F h hh [BV b' lb cb (bs ++ dn)], ⟨_, zig n, 9, [], rfl, rfl, by omega, rfl, rfl, rfl, by simpa using k⟩, ?_⟩
  clear k
  rintro m hh _ b' lb cb z_ ⟨z, f, dn, rfl, rfl, hzf, hf, hdn, rfl, k⟩
  refine cond_split (fun hc => ?_) (fun hc => ?_)
  · have hz : 128 ≤ z := by
      have : (z : Int) ≥ 128 := of_decide_eq_true hc
      omega
    obtain ⟨g, rfl⟩ : ∃ g, f = g + 1 := by
      cases f with
      | zero => simp at hzf; omega
      | succ g => exact ⟨g, rfl⟩
    have eb : (.int .u8 (bitsOp .or .u8 (IntKind.u8.wrap (z : Int)) 128) : Value) = byteV (UInt8.ofNat (128 + z % 128)) := by
      rw [wrap_u8, or128, byteV_of]
      congr 1; omega
    rw [eb]
    refine k.vnew fun b8 h9 k => app_byte k (by omega) fun a12 c12 h11 k => ⟨_, _, _, rfl, by omega, z / 128, by omega, z / 128, g, dn ++ [UInt8.ofNat (128 + z % 128)], ?_, rfl, ?_, by simp; omega, ?_, by simp; omega, ?_⟩
    · rw [Int.fdiv_eq_ediv_of_nonneg _ (Int.pow_nonneg (by omega))]
      show (z : Int) / 128 = _
      omega
    · rw [Nat.pow_succ] at hzf; omega
    · rw [← hdn, List.append_assoc]
      conv => rhs; rw [putZ, if_neg (by omega)]
      rfl
    · rw [← List.append_assoc]; exact k
  · have hz : z < 128 := by
      have : ¬ (z : Int) ≥ 128 := of_decide_eq_false hc
      omega
    have ep : putZ f z = [UInt8.ofNat z] := by
      cases f with
      | zero => rfl
      | succ f => rw [putZ, if_pos hz]
    have eb : (.int .u8 (IntKind.u8.wrap (z : Int)) : Value) = byteV (UInt8.ofNat z) := by rw [wrap_u8, byteV_of]
    rw [eb]
    have hlen : (putN n).length = dn.length + 1 := by rw [← hdn, ep]; simp
    refine k.vnew fun b13 h14 k => app_byte k (by omega) fun a17 c17 h16 k => ⟨_, _, _, rfl, a17, c17, by rw [hlen]; rfl, ?_⟩
    rw [hlen, ← hdn, ep, ← List.append_assoc]
    exact k
theorem putN_len (n : Int) : 1 ≤ (putN n).length ∧ (putN n).length ≤ 10 := putZ_len 9 (zig n)
theorem PutInt_spec {n : Int} (h1 : -9223372036854775808 ≤ n) (h2 : n < 9223372036854775808) :
    CallsH Tryd.prog 79 #[.int .i64 n] h (fun v h' => ∃ a' c', v = .slice a' (putN n).length c' ∧ St none_ h h' [BV a' (putN n).length c' (putN n)]) := by
  refine vf79 _ h _ ?_
  unfold F79
  have k := ((St.fresh h).vnil 5 (sz := 1) (by omega)).re (y := BV none 0 0 []) rfl
  obtain ⟨F, G, k1, kG, d, hF, back⟩ := k.frameA
  refine CallsH.mono (putInt_spec k1 h1 h2 (by omega)) ?_
  rintro _ h2 ⟨a', c', rfl, k2⟩
  have k := back k2
  rw [Nat.zero_add, List.nil_append] at k
  exact ⟨_, _, _, rfl, a', c', by rw [Nat.zero_add], k⟩
end Go.Proofs.YtgdgebmlcgohhaaDoor.F
/-! ## Package wire: a number is read. -/
namespace Go.Proofs.YtgdgebmlcgohhaaDoor.F
open Go Go.VC Go.Proofs
set_option linter.unusedSimpArgs false
set_option linter.unusedVariables false
set_option maxRecDepth 100000
attribute [local irreducible] CallsH RunsTo PureTo

variable {S F G : Nat → Prop} {h0 h h1 : Heap} {L R L' : List A} {a b : Option Addr} {l c l2 c2 : Nat} {bs cs : List UInt8}
theorem and127 (x : UInt8) : bitsOp .and .u8 (x.toNat : Int) 127 = ((x.toNat % 128 : Nat) : Int) := by
  have key : ∀ x : Fin 256, IntKind.u8.wrap ((BitVec.ofInt 8 (x.val : Int) &&& BitVec.ofInt 8 127).toNat : Int) = ((x.val % 128 : Nat) : Int) := by decide +kernel
  exact key ⟨x.toNat, x.toNat_lt⟩
theorem or_sum {z x i : Nat} (hi : i ≤ 9) (hz : z < 128 ^ i) (hx : x * 128 ^ i < 18446744073709551616) : bitsOp .or .u64 (z : Int) ((x * 128 ^ i : Nat) : Int) = ((z + x * 128 ^ i : Nat) : Int) := by
  show IntKind.u64.wrap ((BitVec.ofInt 64 _ ||| BitVec.ofInt 64 _).toNat : Int) = _
  have hp : 128 ^ i = 2 ^ (7 * i) := by rw [Nat.pow_mul]
  have h9 : 128 ^ i ≤ 128 ^ 9 := Nat.pow_le_pow_right (by omega) hi
  have e9 : (128 : Nat) ^ 9 = 9223372036854775808 := rfl
  rw [BitVec.toNat_or, ofInt64 rfl (by omega), ofInt64 rfl hx, wrap_u64]
  have e : z ||| x * 128 ^ i = z + x * 128 ^ i := by
    rw [hp] at hz ⊢
    rw [← Nat.shiftLeft_eq, Nat.or_comm, ← Nat.shiftLeft_add_eq_or_of_lt hz, Nat.add_comm]
  rw [e]
  have hlt : z + x * 128 ^ i < 18446744073709551616 := by
    rw [← e]
    have h1 : z < 2 ^ 64 := by omega
    have h2 : x * 128 ^ i < 2 ^ 64 := hx
    exact Nat.or_lt_two_pow h1 h2
  omega
theorem zag_ops {z : Nat} (h : z < 18446744073709551616) : bitsOp .xor .i64 (IntKind.i64.wrap (Int.fdiv (z : Int) (2 ^ (min (Int.toNat 1) (IntKind.bits .u64))))) (IntKind.i64.wrap (0 - IntKind.i64.wrap (bitsOp .and .u64 (z : Int) 1))) = zag z := by
  have e1 : (2 : Int) ^ (min (Int.toNat 1) (IntKind.bits .u64)) = 2 := rfl
  have e2 : bitsOp .and .u64 (z : Int) 1 = ((z % 2 : Nat) : Int) := by
    show IntKind.u64.wrap ((BitVec.ofInt 64 _ &&& BitVec.ofInt 64 1).toNat : Int) = _
    have e : (BitVec.ofInt 64 1).toNat = 1 := rfl
    rw [BitVec.toNat_and, ofInt64 rfl h, e, Nat.and_one_is_mod, wrap_u64]; omega
  rw [e1, e2, Int.fdiv_eq_ediv_of_nonneg _ (by omega), wrap_id (n := (z : Int) / 2) (by omega) (by omega), wrap_id (n := ((z % 2 : Nat) : Int)) (by omega) (by omega), wrap_id (n := 0 - ((z % 2 : Nat) : Int)) (by omega) (by omega)]
  show IntKind.i64.wrap ((BitVec.ofInt 64 _ ^^^ BitVec.ofInt 64 _).toNat : Int) = _
  have ez : ((z : Int) / 2) = ((z / 2 : Nat) : Int) := by omega
  rw [ez]
  unfold zag
  by_cases hz : z % 2 = 0
  · rw [if_pos hz, hz]
    have e6 : BitVec.ofInt 64 (0 - ((0 : Nat) : Int)) = 0#64 := rfl
    rw [e6, BitVec.xor_zero, ofInt64 rfl (by omega), wrap_id (by omega) (by omega)]
  · have h1 : z % 2 = 1 := by omega
    rw [if_neg hz, h1]
    have e6 : BitVec.ofInt 64 (0 - ((1 : Nat) : Int)) = BitVec.allOnes 64 := rfl
    rw [e6, BitVec.xor_allOnes, BitVec.toNat_not, ofInt64 rfl (by omega)]
    have e7 : ((2 ^ 64 - 1 - z / 2 : Nat) : Int) = 18446744073709551615 - ((z / 2 : Nat) : Int) := by omega
    rw [e7]
    simp only [IntKind.wrap, IntKind.signed, IntKind.bits]
    simp
    omega
def rdV (r : Rd Int) : Value := match r with
  | .ok x n => .tuple #[.int .i64 x, .int .i64 n, .int .i64 0]
  | .err e => .tuple #[.int .i64 0, .int .i64 0, .int .i64 e]
theorem pow7 (i : Nat) (hi : i ≤ 9) : (2 : Int) ^ (min (Int.toNat (IntKind.i64.wrap (7 * (i : Int)))) (IntKind.bits .u64)) = ((128 ^ i : Nat) : Int) := by
  rw [wrap_id (by omega) (by omega)]
  have e : min (Int.toNat (7 * (i : Int))) (IntKind.bits .u64) = 7 * i := by
    show min _ 64 = _
    omega
  rw [e]
  have : (128 : Nat) ^ i = 2 ^ (7 * i) := by rw [Nat.pow_mul]
  rw [this]; simp
theorem int_spec (hs : Sl h a (bytesV bs)) (hl : bs.length = l) (hb : l < 9223372036854775807) : CallsH Tryd.prog 82 #[.slice a l c] h (fun v h' => v = rdV (getN bs) ∧ h' = h) := by
  refine vf82 _ _ _ h _ ?_
  unfold F82
  refine ⟨fun m hh _ _ _ z_ i => ∃ j acc : Nat, i = j ∧ j ≤ l ∧ j ≤ 9 ∧ m = l - j ∧ hh = h ∧ z_ = acc ∧ acc < 128 ^ j ∧ getZ j acc (bs.drop j) = getZ 0 0 bs, ⟨_, 0, 0, rfl, by omega, by omega, rfl, rfl, rfl, by simp, rfl⟩, ?_⟩
  rintro m hh _ _ _ _ z_ i ⟨j, acc, rfl, hj, hj9, rfl, rfl, rfl, hacc, hg⟩
  refine cond_split (fun hc => ?_) (fun hc => ?_)
  · have hjl : j < l := Int.ofNat_lt.1 (of_decide_eq_true hc)
    refine hs.one (f := byteV) hl (by omega) (by omega) fun ad x hx hcx => ⟨_, hcx, ?_⟩
    rw [Int.toNat_natCast] at hx
    have hx8 := x.toNat_lt
    have hd : bs.drop j = x :: bs.drop (j + 1) := by
      obtain ⟨hlt, he⟩ := List.getElem?_eq_some_iff.1 hx
      rw [List.drop_eq_getElem_cons hlt, he]
    rw [hd, getZ] at hg
    rw [pow7 j hj9, and127]
    refine cond_split (fun h9 => cond_split (fun h1 => ?_) (fun h1 => ?_)) (fun h9 => ?_)
    · have h9 : j = 9 := by
        have : (j : Int) = 9 := by simpa using h9
        omega
      have h1 : 1 < x.toNat := by
        have : (x.toNat : Int) > 1 := of_decide_eq_true h1
        omega
      rw [if_pos ⟨h9, h1⟩] at hg
      refine ⟨?_, rfl⟩
      unfold getN
      rw [← hg]; rfl
    · have h1 : ¬ 1 < x.toNat := by
        have : ¬ (x.toNat : Int) > 1 := of_decide_eq_false h1
        omega
      have h91 : j = 9 → ¬ 1 < x.toNat := fun _ => h1
      refine ⟨by rw [wrap_id (by omega) (by omega)]; omega, ?_⟩
      have hp9 : 128 ^ j ≤ 128 ^ 9 := Nat.pow_le_pow_right (by omega) hj9
      have e9 : (128 : Nat) ^ 9 = 9223372036854775808 := rfl
      have hxm : x.toNat % 128 * 128 ^ j < 18446744073709551616 := by
        by_cases h9 : j = 9
        · subst h9
          have := h91 rfl
          have e2 : x.toNat % 128 ≤ 1 := by omega
          have := Nat.mul_le_mul_right (128 ^ 9) e2
          omega
        · have : 128 ^ j ≤ 128 ^ 8 := Nat.pow_le_pow_right (by omega) (by omega)
          have e8 : (128 : Nat) ^ 8 = 72057594037927936 := rfl
          have h1 : x.toNat % 128 ≤ 127 := by omega
          have := Nat.mul_le_mul h1 this
          omega
      have ew : IntKind.u64.wrap (IntKind.u64.wrap ((x.toNat % 128 : Nat) : Int) * ((128 ^ j : Nat) : Int)) = ((x.toNat % 128 * 128 ^ j : Nat) : Int) := by
        rw [wrap_u64, wrap_u64, Int.emod_eq_of_lt (a := ((x.toNat % 128 : Nat) : Int)) (by omega) (by omega), ← Int.natCast_mul]
        omega
      rw [ew, or_sum hj9 hacc hxm]
      have hsum : acc + x.toNat % 128 * 128 ^ j < 128 ^ (j + 1) := by
        have h1 : x.toNat % 128 ≤ 127 := by omega
        have := Nat.mul_le_mul_right (128 ^ j) h1
        rw [Nat.pow_succ]; omega
      have h64 : acc + x.toNat % 128 * 128 ^ j < 18446744073709551616 := by
        by_cases h9 : j = 9
        · subst h9
          have := h91 rfl
          have e2 : x.toNat % 128 ≤ 1 := by omega
          have := Nat.mul_le_mul_right (128 ^ 9) e2
          omega
        · have : 128 ^ (j + 1) ≤ 128 ^ 9 := Nat.pow_le_pow_right (by omega) (by omega)
          omega
      rw [zag_ops h64]
      have hn1 : ¬ (j = 9 ∧ 1 < x.toNat) := fun h => by have := h91 h.1; omega
      rw [if_neg hn1] at hg
      refine cond_split (fun hc => ?_) (fun hc => ?_)
      · have h128 : 128 ≤ x.toNat := by
          have : (x.toNat : Int) ≥ 128 := of_decide_eq_true hc
          omega
        rw [if_pos h128] at hg
        refine ⟨l - (j + 1), by omega, j + 1, acc + x.toNat % 128 * 128 ^ j, by rw [wrap_id (by omega) (by omega)]; omega, hjl, ?_, rfl, rfl, rfl, hsum, hg⟩
        by_cases h9 : j = 9
        · have := h91 h9
          omega
        · omega
      · have h128 : x.toNat < 128 := by
          have : ¬ (x.toNat : Int) ≥ 128 := of_decide_eq_false hc
          omega
        rw [if_neg (by omega)] at hg
        have em : x.toNat % 128 = x.toNat := Nat.mod_eq_of_lt h128
        rw [em]
        have ei : IntKind.i64.wrap ((j : Int) + 1) = ((j + 1 : Nat) : Int) := by rw [wrap_id (by omega) (by omega)]; omega
        rw [ei]
        have okk : ¬ (x.toNat = 0 ∧ 0 < j) → (Value.tuple #[.int .i64 (zag (acc + x.toNat * 128 ^ j)), .int .i64 ((j + 1 : Nat) : Int), .int .i64 0]) = rdV (getN bs) := fun hne => by
          rw [if_neg hne] at hg
          unfold getN
          rw [← hg]; rfl
        refine cond_split (fun hc0 => cond_split (fun hcj => ?_) (fun hcj => ?_)) (fun hc0 => ?_)
        · have h0 : x.toNat = 0 := by
            have : (x.toNat : Int) = 0 := by simpa using hc0
            omega
          have hjp : 0 < j := by
            have : (j : Int) > 0 := of_decide_eq_true hcj
            omega
          rw [if_pos ⟨h0, hjp⟩] at hg
          refine ⟨?_, rfl⟩
          unfold getN
          rw [← hg]; rfl
        · have hjp : ¬ 0 < j := by
            have : ¬ (j : Int) > 0 := of_decide_eq_false hcj
            omega
          exact ⟨by omega, okk (fun h => hjp h.2), rfl⟩
        · have h0 : x.toNat ≠ 0 := by
            have : (x.toNat : Int) ≠ 0 := by simpa using hc0
            omega
          exact ⟨by omega, okk (fun h => h0 h.1), rfl⟩
    · have h9 : j ≠ 9 := by
        have : (j : Int) ≠ 9 := by simpa using h9
        omega
      have h91 : j = 9 → ¬ 1 < x.toNat := fun h => absurd h h9
      refine ⟨by rw [wrap_id (by omega) (by omega)]; omega, ?_⟩
      have hp9 : 128 ^ j ≤ 128 ^ 9 := Nat.pow_le_pow_right (by omega) hj9
      have e9 : (128 : Nat) ^ 9 = 9223372036854775808 := rfl
      have hxm : x.toNat % 128 * 128 ^ j < 18446744073709551616 := by
        by_cases h9 : j = 9
        · subst h9
          have := h91 rfl
          have e2 : x.toNat % 128 ≤ 1 := by omega
          have := Nat.mul_le_mul_right (128 ^ 9) e2
          omega
        · have : 128 ^ j ≤ 128 ^ 8 := Nat.pow_le_pow_right (by omega) (by omega)
          have e8 : (128 : Nat) ^ 8 = 72057594037927936 := rfl
          have h1 : x.toNat % 128 ≤ 127 := by omega
          have := Nat.mul_le_mul h1 this
          omega
      have ew : IntKind.u64.wrap (IntKind.u64.wrap ((x.toNat % 128 : Nat) : Int) * ((128 ^ j : Nat) : Int)) = ((x.toNat % 128 * 128 ^ j : Nat) : Int) := by
        rw [wrap_u64, wrap_u64, Int.emod_eq_of_lt (a := ((x.toNat % 128 : Nat) : Int)) (by omega) (by omega), ← Int.natCast_mul]
        omega
      rw [ew, or_sum hj9 hacc hxm]
      have hsum : acc + x.toNat % 128 * 128 ^ j < 128 ^ (j + 1) := by
        have h1 : x.toNat % 128 ≤ 127 := by omega
        have := Nat.mul_le_mul_right (128 ^ j) h1
        rw [Nat.pow_succ]; omega
      have h64 : acc + x.toNat % 128 * 128 ^ j < 18446744073709551616 := by
        by_cases h9 : j = 9
        · subst h9
          have := h91 rfl
          have e2 : x.toNat % 128 ≤ 1 := by omega
          have := Nat.mul_le_mul_right (128 ^ 9) e2
          omega
        · have : 128 ^ (j + 1) ≤ 128 ^ 9 := Nat.pow_le_pow_right (by omega) (by omega)
          omega
      rw [zag_ops h64]
      have hn1 : ¬ (j = 9 ∧ 1 < x.toNat) := fun h => by have := h91 h.1; omega
      rw [if_neg hn1] at hg
      refine cond_split (fun hc => ?_) (fun hc => ?_)
      · have h128 : 128 ≤ x.toNat := by
          have : (x.toNat : Int) ≥ 128 := of_decide_eq_true hc
          omega
        rw [if_pos h128] at hg
        refine ⟨l - (j + 1), by omega, j + 1, acc + x.toNat % 128 * 128 ^ j, by rw [wrap_id (by omega) (by omega)]; omega, hjl, ?_, rfl, rfl, rfl, hsum, hg⟩
        by_cases h9 : j = 9
        · have := h91 h9
          omega
        · omega
      · have h128 : x.toNat < 128 := by
          have : ¬ (x.toNat : Int) ≥ 128 := of_decide_eq_false hc
          omega
        rw [if_neg (by omega)] at hg
        have em : x.toNat % 128 = x.toNat := Nat.mod_eq_of_lt h128
        rw [em]
        have ei : IntKind.i64.wrap ((j : Int) + 1) = ((j + 1 : Nat) : Int) := by rw [wrap_id (by omega) (by omega)]; omega
        rw [ei]
        have okk : ¬ (x.toNat = 0 ∧ 0 < j) → (Value.tuple #[.int .i64 (zag (acc + x.toNat * 128 ^ j)), .int .i64 ((j + 1 : Nat) : Int), .int .i64 0]) = rdV (getN bs) := fun hne => by
          rw [if_neg hne] at hg
          unfold getN
          rw [← hg]; rfl
        refine cond_split (fun hc0 => cond_split (fun hcj => ?_) (fun hcj => ?_)) (fun hc0 => ?_)
        · have h0 : x.toNat = 0 := by
            have : (x.toNat : Int) = 0 := by simpa using hc0
            omega
          have hjp : 0 < j := by
            have : (j : Int) > 0 := of_decide_eq_true hcj
            omega
          rw [if_pos ⟨h0, hjp⟩] at hg
          refine ⟨?_, rfl⟩
          unfold getN
          rw [← hg]; rfl
        · have hjp : ¬ 0 < j := by
            have : ¬ (j : Int) > 0 := of_decide_eq_false hcj
            omega
          exact ⟨by omega, okk (fun h => hjp h.2), rfl⟩
        · have h0 : x.toNat ≠ 0 := by
            have : (x.toNat : Int) ≠ 0 := by simpa using hc0
            omega
          exact ⟨by omega, okk (fun h => h0 h.1), rfl⟩
  · have hjl : j = l := by
      have : ¬ (j : Int) < l := of_decide_eq_false hc
      omega
    subst hjl
    rw [List.drop_of_length_le (by omega), getZ] at hg
    refine ⟨?_, rfl⟩
    unfold getN
    rw [← hg]; rfl
end Go.Proofs.YtgdgebmlcgohhaaDoor.F
/-! ## Package wire: forms, values, events, batches, in plain Lean. -/
namespace Go.Proofs.YtgdgebmlcgohhaaDoor.F
open Go Go.VC
set_option linter.unusedSimpArgs false
set_option linter.unusedVariables false

variable {α β γ : Type}
def bindR (f : Bytes → Rd α) (g : α → Bytes → Rd β) (b : Bytes) : Rd β := match f b with
  | .ok x n => match g x (b.drop n) with
    | .ok y m => .ok y (n + m)
    | .err e => .err e
  | .err e => .err e
def retR (x : α) (_ : Bytes) : Rd α := .ok x 0
def failR (e : Int) (_ : Bytes) : Rd α := .err e
/-- A form: what is written is read, what is read would be written so, less of it ends too early. -/
structure Form (f : Bytes → Rd α) (put : α → Bytes) (P : α → Prop) : Prop where
  gp : ∀ x y, P x → f (put x ++ y) = .ok x (put x).length
  pg : ∀ b x n, f b = .ok x n → P x ∧ n = (put x).length ∧ b.take n = put x
  sh : ∀ b x n m, f b = .ok x n → m < n → f (b.take m) = .err 30
theorem Form.le {f : Bytes → Rd α} {p : α → Bytes} {P : α → Prop} (k : Form f p P) {b : Bytes} {x : α} {n : Nat} (h : f b = .ok x n) : n ≤ b.length := by
  obtain ⟨_, h2, h3⟩ := k.pg b x n h
  have := congrArg List.length h3
  rw [List.length_take] at this; omega
theorem Form.split {f : Bytes → Rd α} {p : α → Bytes} {P : α → Prop} (k : Form f p P) {b : Bytes} {x : α} {n : Nat} (h : f b = .ok x n) : b = p x ++ b.drop n := by
  obtain ⟨_, _, h3⟩ := k.pg b x n h
  conv => lhs; rw [← List.take_append_drop n b, h3]
theorem Form.more {f : Bytes → Rd α} {p : α → Bytes} {P : α → Prop} (k : Form f p P) {b : Bytes} {x : α} {n m : Nat} (h : f b = .ok x n) (hm : n ≤ m) : f (b.take m) = .ok x n := by
  obtain ⟨h1, h2, h3⟩ := k.pg b x n h
  have e : b.take m = p x ++ (b.drop n).take (m - n) := by
    conv => lhs; rw [k.split h]
    rw [List.take_append, ← h2, List.take_of_length_le (by omega)]
  rw [e, k.gp x _ h1, ← h2]
theorem Form.bind {f : Bytes → Rd α} {g : α → Bytes → Rd β} {p : α → Bytes} {P : α → Prop} {q : α → β → Bytes} {Q : α → β → Prop} (key : β → α) (hf : Form f p P) (hg : ∀ x, P x → Form (g x) (q x) (Q x)) (hk : ∀ x y, P x → Q x y → key y = x) :
    Form (bindR f g) (fun y => p (key y) ++ q (key y) y) (fun y => P (key y) ∧ Q (key y) y) where
  gp y z h := by
    unfold bindR
    rw [List.append_assoc, hf.gp _ _ h.1]
    simp only [List.drop_left]
    rw [(hg _ h.1).gp _ _ h.2, List.length_append]
  pg b y n h := by
    unfold bindR at h
    split at h
    · rename_i x m hx
      split at h
      · rename_i y' m' hy
        cases h
        obtain ⟨h1, h2, h3⟩ := hf.pg _ _ _ hx
        obtain ⟨h4, h5, h6⟩ := (hg x h1).pg _ _ _ hy
        have e := hk x y h1 h4
        rw [e]
        refine ⟨⟨h1, h4⟩, by rw [List.length_append, h2, h5], ?_⟩
        rw [List.take_add, h3, h6]
      · cases h
    · cases h
  sh b y n k h hkn := by
    unfold bindR at h
    split at h
    · rename_i x m hx
      split at h
      · rename_i y' m' hy
        cases h
        obtain ⟨h1, h2, h3⟩ := hf.pg _ _ _ hx
        unfold bindR
        by_cases hkm : k < m
        · rw [hf.sh _ _ _ _ hx hkm]
        · rw [hf.more hx (by omega)]
          simp only
          have e : (b.take k).drop m = (b.drop m).take (k - m) := by rw [List.drop_take]
          rw [e, (hg x h1).sh _ _ _ _ hy (by omega)]
      · cases h
    · cases h
theorem Form.congr {f : Bytes → Rd α} {p p' : α → Bytes} {P P' : α → Prop} (k : Form f p P) (h : ∀ x, P x ↔ P' x) (e : ∀ x, P x → p x = p' x) : Form f p' P' where
  gp x y hx := by rw [← e x ((h x).2 hx)]; exact k.gp x y ((h x).2 hx)
  pg b x n hb := by
    obtain ⟨h1, h2, h3⟩ := k.pg b x n hb
    rw [← e x h1]; exact ⟨(h x).1 h1, h2, h3⟩
  sh := k.sh
theorem Form.ret (x : α) : Form (retR x) (fun _ => []) (fun y => y = x) where
  gp y z h := by subst h; rfl
  pg b y n h := by cases h; exact ⟨rfl, rfl, rfl⟩
  sh b y n m h hm := by cases h; omega
theorem Form.fail (e : Int) (p : α → Bytes) : Form (failR e) p (fun _ => False) where
  gp y z h := h.elim
  pg b y n h := by cases h
  sh b y n m h hm := by cases h
/-! ### Numbers, texts -/
theorem Form.num : Form getN putN (fun n => -9223372036854775808 ≤ n ∧ n < 9223372036854775808) where
  gp n y h := by
    unfold getN putN
    have hz := zig_lt h.1 h.2
    rw [get_put 9 0 (zig n) 0 y rfl (by omega) (fun h => by omega)]
    simp only [Nat.zero_add, Nat.pow_zero, Nat.mul_one, zag_zig]
  pg b n m h := by
    unfold getN at h
    split at h
    · rename_i z k hz
      cases h
      obtain ⟨z', e1, e2, _, e4, e5⟩ := put_get b 9 0 0 z m rfl hz
      have e1 : z = z' := by omega
      subst e1
      have : putN (zag z) = putZ 9 z := by unfold putN; rw [zig_zag]
      rw [this]
      exact ⟨zag_lt (by omega), by omega, by rw [e4, Nat.zero_add]; exact e5⟩
    · cases h
  sh b n k m h hm := by
    unfold getN at h
    split at h
    · rename_i z k hz
      cases h
      unfold getN
      rw [get_short b 0 0 z _ m hz (by omega)]
    · cases h
def numb (lo hi : Int) (b : Bytes) : Rd Int := match getN b with
  | .ok x n => if x < lo ∨ hi < x then .err 31 else .ok x n
  | .err e => .err e
theorem Form.numb {lo hi : Int} (h1 : -9223372036854775808 ≤ lo) (h2 : hi < 9223372036854775808) : Form (numb lo hi) putN (fun n => lo ≤ n ∧ n ≤ hi) where
  gp n y h := by
    unfold F.numb
    rw [Form.num.gp n y ⟨by omega, by omega⟩]
    simp only
    rw [if_neg (by omega)]
  pg b n m h := by
    unfold F.numb at h
    split at h
    · rename_i x k hx
      split at h
      · cases h
      · cases h
        obtain ⟨e1, e2, e3⟩ := Form.num.pg _ _ _ hx
        exact ⟨by omega, e2, e3⟩
    · cases h
  sh b n k m h hm := by
    unfold F.numb at h
    split at h
    · rename_i x k' hx
      split at h
      · cases h
      · cases h
        unfold F.numb
        rw [Form.num.sh _ _ _ _ hx hm]
    · cases h
def takeB (n : Nat) (b : Bytes) : Rd Bytes := if b.length < n then .err 30 else .ok (b.take n) n
theorem Form.takeB (n : Nat) : Form (takeB n) id (fun s => s.length = n) where
  gp s y h := by
    unfold F.takeB
    subst h
    rw [if_neg (by simp), id, List.take_left]
  pg b s m h := by
    unfold F.takeB at h
    split at h
    · cases h
    · cases h
      have : (b.take n).length = n := by rw [List.length_take]; omega
      exact ⟨this, this.symm, rfl⟩
  sh b s k m h hm := by
    unfold F.takeB at h
    split at h
    · cases h
    · cases h
      unfold F.takeB
      rw [if_pos (by rw [List.length_take]; omega)]
def oneR (lo hi : Nat) (b : Bytes) : Rd UInt8 := match b with
  | [] => .err 30
  | c :: _ => if c.toNat < lo ∨ hi < c.toNat then .err 31 else .ok c 1
theorem Form.one (lo hi : Nat) : Form (oneR lo hi) (fun c => [c]) (fun c => lo ≤ c.toNat ∧ c.toNat ≤ hi) where
  gp c y h := by
    show (if c.toNat < lo ∨ hi < c.toNat then _ else _) = _
    rw [if_neg (by omega)]; rfl
  pg b c n h := by
    unfold oneR at h
    split at h
    · cases h
    · split at h
      · cases h
      · cases h
        exact ⟨by omega, rfl, rfl⟩
  sh b c n m h hm := by
    unfold oneR at h
    split at h
    · cases h
    · split at h
      · cases h
      · cases h
        have : m = 0 := by omega
        subst this; rfl
def textR (lo hi : Int) : Bytes → Rd Bytes := bindR (numb lo hi) fun n => takeB n.toNat
def putS (s : Bytes) : Bytes := putN s.length ++ s
theorem Form.text {lo hi : Int} (h1 : 0 ≤ lo) (h2 : hi < 9223372036854775808) : Form (textR lo hi) putS (fun s => lo ≤ s.length ∧ s.length ≤ hi) := by
  have k := Form.bind (fun s : Bytes => (s.length : Int)) (Form.numb (lo := lo) (hi := hi) (by omega) h2) (g := fun n => F.takeB n.toNat) (q := fun _ => id) (Q := fun n s => s.length = n.toNat) (fun n _ => Form.takeB n.toNat) (fun n s h e => by omega)
  refine k.congr (fun s => ?_) (fun s _ => rfl)
  simp only [Int.toNat_natCast, and_true]
/-! ### Names, values -/
def isLetter (c : UInt8) : Bool := (decide (97 ≤ c.toNat) && decide (c.toNat ≤ 122)) || (decide (65 ≤ c.toNat) && decide (c.toNat ≤ 90)) || decide (c.toNat = 95)
def isDigit (c : UInt8) : Bool := decide (48 ≤ c.toNat) && decide (c.toNat ≤ 57)
def isPart (c : UInt8) : Bool := isLetter c || isDigit c
def words : List Bytes := [[80, 65, 84, 84, 69, 82, 78], [83, 69, 81], [80, 65, 82, 84, 73, 84, 73, 79, 78], [66, 89], [87, 72, 69, 82, 69], [87, 73, 84, 72, 73, 78], [82, 69, 84, 85, 82, 78], [65, 78, 68], [79, 82], [78, 79, 84], [84, 82, 85, 69], [70, 65, 76, 83, 69], [84, 89, 80, 69], [73, 78, 84], [83, 84, 82], [66, 79, 79, 76]]
def nameOk (s : Bytes) : Bool := match s with
  | [] => false
  | c :: r => decide (s.length ≤ 32) && isLetter c && s.all isPart && !words.contains s
theorem nameOk_len {s : Bytes} (h : nameOk s = true) : 1 ≤ s.length ∧ s.length ≤ 32 := by
  cases s with
  | nil => cases h
  | cons c r =>
    simp only [nameOk, Bool.and_eq_true, decide_eq_true_eq] at h
    exact ⟨by simp, h.1.1.1⟩
structure Val where
  k : Int
  n : Int
  s : Bytes
  b : Bool
deriving DecidableEq
abbrev noVal : Val := ⟨0, 0, [], false⟩
structure Ev where
  t : Bytes
  tm : Int
  vs : List Val
deriving DecidableEq
abbrev noEv : Ev := ⟨[], 0, []⟩
def validV (v : Val) : Bool :=
  if v.k = 1 then decide (v.s = []) && !v.b
  else if v.k = 2 then decide (v.n = 0) && !v.b && decide (v.s.length ≤ 256)
  else if v.k = 3 then decide (v.n = 0) && decide (v.s = [])
  else false
def rngV (v : Val) : Prop := -9223372036854775808 ≤ v.n ∧ v.n < 9223372036854775808
def okV (v : Val) : Prop := validV v = true ∧ rngV v
def encV (v : Val) : Bytes := UInt8.ofNat v.k.toNat :: (if v.k = 1 then putN v.n else if v.k = 2 then putS v.s else [if v.b then 1 else 0])
def valR : Bytes → Rd Val := bindR (oneR 1 3) fun c =>
  if c.toNat = 1 then bindR (numb (-9223372036854775808) 9223372036854775807) fun n => retR ⟨1, n, [], false⟩
  else if c.toNat = 2 then bindR (textR 0 256) fun s => retR ⟨2, 0, s, false⟩
  else bindR (oneR 0 1) fun x => retR ⟨3, 0, [], decide (x.toNat = 1)⟩
theorem u8_eq {c : UInt8} {n : Nat} (h : c.toNat = n) : c = UInt8.ofNat n := by subst h; rw [UInt8.ofNat_toNat]
theorem Form.val : Form valR encV okV := by
  have k := Form.bind (fun v : Val => UInt8.ofNat v.k.toNat) (Form.one 1 3) (g := fun c =>
      if c.toNat = 1 then bindR (F.numb (-9223372036854775808) 9223372036854775807) fun n => retR (⟨1, n, [], false⟩ : Val)
      else if c.toNat = 2 then bindR (textR 0 256) fun s => retR ⟨2, 0, s, false⟩
      else bindR (oneR 0 1) fun x => retR ⟨3, 0, [], decide (x.toNat = 1)⟩)
    (q := fun c v => if c.toNat = 1 then putN v.n else if c.toNat = 2 then putS v.s else [if v.b then 1 else 0])
    (Q := fun c v => okV v ∧ v.k = c.toNat) (fun c hc => ?_) (fun c v hc hv => ?_)
  · refine k.congr (fun v => ?_) (fun v h => ?_)
    · constructor
      · intro h; exact h.2.1
      · intro h
        have hk : v.k = 1 ∨ v.k = 2 ∨ v.k = 3 := by
          have h := h.1
          unfold validV at h
          split at h
          · exact .inl ‹_›
          split at h
          · exact .inr (.inl ‹_›)
          split at h
          · exact .inr (.inr ‹_›)
          · cases h
        rcases hk with e | e | e <;> rw [e] <;> exact ⟨⟨by decide, by decide⟩, h, by decide⟩
    · obtain ⟨h1, h2, h3⟩ := h
      simp only [encV]
      rw [List.singleton_append]
      congr 1
      generalize (UInt8.ofNat v.k.toNat).toNat = x at h3 ⊢
      have e1 : (x = 1) ↔ (v.k = 1) := by omega
      have e2 : (x = 2) ↔ (v.k = 2) := by omega
      simp only [e1, e2]
  · by_cases h1 : c.toNat = 1
    · simp only [h1, if_true]
      have k := Form.bind (fun v : Val => v.n) (Form.numb (lo := -9223372036854775808) (hi := 9223372036854775807) (by omega) (by omega)) (g := fun n => retR (⟨1, n, [], false⟩ : Val)) (fun n _ => Form.ret _) (fun n v _ h => by rw [h])
      refine k.congr (fun v => ?_) (fun v _ => by simp)
      obtain ⟨vk, vn, vs, vb⟩ := v
      constructor
      · rintro ⟨h2, h3⟩
        have h2 : -9223372036854775808 ≤ vn ∧ vn ≤ 9223372036854775807 := h2
        cases h3
        exact ⟨⟨rfl, by show _ ≤ vn; omega, by show vn < _; omega⟩, rfl⟩
      · rintro ⟨⟨h2, h3, h4⟩, h5⟩
        simp only at h3 h4 h5
        subst h5
        simp [validV] at h2
        refine ⟨⟨h3, by show vn ≤ _; omega⟩, ?_⟩
        simp [h2]
    · by_cases h2 : c.toNat = 2
      · rw [if_neg h1, if_pos h2]
        have k := Form.bind (fun v : Val => v.s) (Form.text (lo := 0) (hi := 256) (by omega) (by omega)) (g := fun s => retR (⟨2, 0, s, false⟩ : Val)) (fun n _ => Form.ret _) (fun n v _ h => by rw [h])
        refine k.congr (fun v => ?_) (fun v _ => by simp [h1, h2])
        obtain ⟨vk, vn, vs, vb⟩ := v
        rw [h2]
        constructor
        · rintro ⟨h3, h4⟩
          cases h4
          refine ⟨⟨?_, by show _ ≤ (0 : Int); omega, by show (0 : Int) < _; omega⟩, rfl⟩
          simp only at h3
          simp [validV]; omega
        · rintro ⟨⟨h3, h4, h5⟩, h6⟩
          simp only at h6
          subst h6
          simp [validV] at h3
          refine ⟨⟨by simp only; omega, by simp only; omega⟩, ?_⟩
          simp [h3]
      · rw [if_neg h1, if_neg h2]
        have h3 : c.toNat = 3 := by omega
        have k := Form.bind (fun v : Val => (if v.b then 1 else 0 : UInt8)) (Form.one 0 1) (g := fun x => retR (⟨3, 0, [], decide (x.toNat = 1)⟩ : Val)) (fun n _ => Form.ret _) (fun x v hx h => by
          rw [h]
          simp only
          by_cases h4 : x.toNat = 1
          · rw [if_pos (decide_eq_true h4)]; exact (u8_eq h4).symm
          · rw [if_neg (by simp [h4])]
            have : x.toNat = 0 := by omega
            exact (u8_eq this).symm)
        refine k.congr (fun v => ?_) (fun v _ => by simp [h1, h2])
        obtain ⟨vk, vn, vs, vb⟩ := v
        rw [h3]
        constructor
        · rintro ⟨h4, h5⟩
          simp only [Val.mk.injEq] at h5
          obtain ⟨e1, e2, e3, e4⟩ := h5
          subst e1 e2 e3
          exact ⟨⟨by simp [validV], by show _ ≤ (0 : Int); omega, by show (0 : Int) < _; omega⟩, rfl⟩
        · rintro ⟨⟨h4, h5, h6⟩, h7⟩
          simp only at h7
          subst h7
          simp [validV] at h4
          obtain ⟨rfl, rfl⟩ := h4
          cases vb <;> exact ⟨⟨by decide, by decide⟩, by decide⟩
  · show UInt8.ofNat v.k.toNat = c
    rw [hv.2, Int.toNat_natCast, UInt8.ofNat_toNat]
/-! ### Events -/
def rep (f : Bytes → Rd α) : Nat → Bytes → Rd (List α)
  | 0 => retR []
  | n + 1 => bindR f fun x => bindR (rep f n) fun xs => retR (x :: xs)
theorem Form.rep {f : Bytes → Rd α} {p : α → Bytes} {P : α → Prop} [Inhabited α] (k : Form f p P) : ∀ n, Form (rep f n) (fun xs => xs.flatMap p) (fun xs => xs.length = n ∧ ∀ x ∈ xs, P x)
  | 0 => (Form.ret ([] : List α)).congr (fun xs => by
      constructor
      · rintro rfl; exact ⟨rfl, by simp⟩
      · rintro ⟨h, _⟩; exact List.eq_nil_of_length_eq_zero h) (fun xs h => by subst h; rfl)
  | n + 1 => by
    have k2 : ∀ x, Form (bindR (F.rep f n) fun xs => retR (x :: xs)) (fun ys => ys.tail.flatMap p) (fun ys => ys.head? = some x ∧ ys.tail.length = n ∧ ∀ y ∈ ys.tail, P y) := fun x => by
      have k2 := Form.bind (fun ys : List α => ys.tail) (Form.rep k n) (g := fun xs => retR (x :: xs)) (fun xs _ => Form.ret _) (fun xs ys _ h => by rw [h]; rfl)
      refine k2.congr (fun ys => ?_) (fun ys _ => by simp)
      constructor
      · rintro ⟨h1, h2⟩
        rw [h2]
        exact ⟨rfl, h1⟩
      · rintro ⟨h1, h2⟩
        refine ⟨h2, ?_⟩
        cases ys with
        | nil => cases h1
        | cons y ys => simp at h1; subst h1; rfl
    have k3 := Form.bind (fun ys : List α => ys.headD default) k (g := fun x => bindR (F.rep f n) fun xs => retR (x :: xs)) (q := fun _ ys => ys.tail.flatMap p) (Q := fun x ys => ys.head? = some x ∧ ys.tail.length = n ∧ ∀ y ∈ ys.tail, P y) (fun x _ => k2 x) (fun x ys _ h => by
      cases ys with
      | nil => cases h.1
      | cons y ys => simpa using h.1)
    refine k3.congr (fun ys => ?_) (fun ys h => ?_)
    · cases ys with
      | nil => simp
      | cons y ys => simp; exact ⟨fun h => ⟨h.2.1, h.1, h.2.2⟩, fun h => ⟨h.2.1, h.1, h.2.2⟩⟩
    · cases ys with
      | nil => simp at h
      | cons y ys => simp
def maxTime : Int := 4611686018427387904
def faultE (e : Ev) : Int :=
  if nameOk e.t = false then 20 else if e.tm < 0 ∨ maxTime < e.tm then 23 else if 16 < e.vs.length then 2 else if e.vs.all validV = false then 12 else 0
def rngE (e : Ev) : Prop := ∀ v ∈ e.vs, rngV v
def encE (e : Ev) : Bytes := putS e.t ++ (putN e.tm ++ (putN e.vs.length ++ e.vs.flatMap encV))
def nameR : Bytes → Rd Bytes := bindR (textR 1 32) fun t => if nameOk t then retR t else failR 31
instance : Inhabited Val := ⟨noVal⟩
instance : Inhabited Ev := ⟨noEv⟩
def evR : Bytes → Rd Ev := bindR nameR fun t => bindR (numb 0 maxTime) fun tm => bindR (numb 0 16) fun n => bindR (rep valR n.toNat) fun vs => retR ⟨t, tm, vs⟩
theorem Form.name : Form nameR putS (fun t => nameOk t = true) := by
  have k := Form.bind (fun t : Bytes => t) (Form.text (lo := 1) (hi := 32) (by omega) (by omega)) (g := fun t => if nameOk t then retR t else failR 31) (q := fun _ _ => []) (Q := fun t y => nameOk t = true ∧ y = t) (fun t _ => by
    cases h : nameOk t
    · exact (Form.fail 31 (fun _ => [])).congr (fun x => by simp) (fun x h => h.elim)
    · exact (Form.ret t).congr (fun x => by simp) (fun x h => rfl)) (fun t y _ h => h.2)
  refine k.congr (fun t => ?_) (fun t _ => by simp)
  constructor
  · intro h; exact h.2.1
  · intro h
    have := nameOk_len h
    exact ⟨by omega, h, rfl⟩
theorem fault0 {e : Ev} : faultE e = 0 ↔ nameOk e.t = true ∧ 0 ≤ e.tm ∧ e.tm ≤ maxTime ∧ e.vs.length ≤ 16 ∧ ∀ v ∈ e.vs, validV v = true := by
  unfold faultE
  constructor
  · intro h
    split at h
    · cases h
    split at h
    · cases h
    split at h
    · cases h
    split at h
    · cases h
    rename_i h1 h2 h3 h4
    refine ⟨by simpa using h1, by omega, by omega, by omega, ?_⟩
    simpa using h4
  · rintro ⟨h1, h2, h3, h4, h5⟩
    rw [if_neg (by simp [h1]), if_neg (by omega), if_neg (by omega), if_neg]
    simpa using h5
def okE (e : Ev) : Prop := faultE e = 0 ∧ rngE e
theorem Form.ev : Form evR encE okE := by
  have k4 : ∀ t tm, ∀ n : Int, 0 ≤ n ∧ n ≤ 16 → Form (bindR (F.rep valR n.toNat) fun vs => retR (⟨t, tm, vs⟩ : Ev)) (fun e => e.vs.flatMap encV) (fun e => (e.vs.length = n.toNat ∧ ∀ v ∈ e.vs, okV v) ∧ e = ⟨t, tm, e.vs⟩) := fun t tm n _ =>
    (Form.bind (fun e : Ev => e.vs) (Form.rep Form.val n.toNat) (g := fun vs => retR (⟨t, tm, vs⟩ : Ev)) (fun xs _ => Form.ret _) (fun xs ys _ h => by rw [h])).congr (fun e => Iff.rfl) (fun e _ => by simp)
  have k3 := fun t tm => Form.bind (fun e : Ev => (e.vs.length : Int)) (Form.numb (lo := 0) (hi := 16) (by omega) (by omega)) (fun n hn => k4 t tm n hn) (fun n e hn h => by
    have h := h.1.1
    show (e.vs.length : Int) = n
    omega)
  have k2 := fun t => Form.bind (fun e : Ev => e.tm) (Form.numb (lo := 0) (hi := maxTime) (by omega) (by decide)) (fun tm _ => k3 t tm) (fun tm e _ h => by rw [h.2.2])
  have k1 := Form.bind (fun e : Ev => e.t) Form.name (fun t _ => k2 t) (fun t e _ h => by rw [h.2.2.2])
  refine k1.congr (fun e => ?_) (fun e _ => rfl)
  unfold okE
  rw [fault0]
  constructor
  · rintro ⟨h1, h2, h3, ⟨h4, h5⟩, h6⟩
    exact ⟨⟨h1, h2.1, h2.2, by omega, fun v hv => (h5 v hv).1⟩, fun v hv => (h5 v hv).2⟩
  · rintro ⟨⟨h1, h2, h3, h4, h5⟩, h6⟩
    exact ⟨h1, ⟨h2, h3⟩, ⟨by omega, by omega⟩, ⟨by omega, fun v hv => ⟨h5 v hv, h6 v hv⟩⟩, rfl⟩
theorem encV_len {v : Val} (h : validV v = true) : (encV v).length ≤ 267 := by
  have hn := fun n => (putZ_len 9 (zig n)).2
  unfold encV validV at *
  rw [List.length_cons]
  by_cases h1 : v.k = 1
  · rw [if_pos h1]
    have := hn v.n
    unfold putN; omega
  · rw [if_neg h1] at h ⊢
    by_cases h2 : v.k = 2
    · rw [if_pos h2] at h ⊢
      simp only [Bool.and_eq_true, decide_eq_true_eq] at h
      have := hn v.s.length
      unfold putS putN
      rw [List.length_append]; omega
    · rw [if_neg h2]; simp
theorem encVs_len : ∀ {vs : List Val}, (∀ v ∈ vs, validV v = true) → (vs.flatMap encV).length ≤ 267 * vs.length
  | [], _ => by simp
  | v :: vs, h => by
    have h1 := encV_len (h v (by simp))
    have h2 := encVs_len (vs := vs) fun w hw => h w (by simp [hw])
    rw [List.flatMap_cons, List.length_append, List.length_cons]; omega
theorem encE_len {e : Ev} (h : faultE e = 0) : (encE e).length ≤ 5000 := by
  have hn := fun n => (putZ_len 9 (zig n)).2
  obtain ⟨h1, h2, h3, h4, h5⟩ := fault0.1 h
  have := nameOk_len h1
  have := encVs_len h5
  have := hn e.t.length
  have := hn e.tm
  have := hn e.vs.length
  unfold encE putS putN
  simp only [List.length_append]
  omega
end Go.Proofs.YtgdgebmlcgohhaaDoor.F
/-! ## Package wire: bytes compared, and the document's reading of a number. -/
namespace Go.Proofs.YtgdgebmlcgohhaaDoor.F
open Go Go.VC Go.Proofs
set_option linter.unusedSimpArgs false
set_option linter.unusedVariables false
set_option maxRecDepth 100000
attribute [local irreducible] CallsH RunsTo PureTo

variable {S F G : Nat → Prop} {h0 h h1 : Heap} {L R L' : List A} {a b : Option Addr} {l c l2 c2 : Nat} {bs cs : List UInt8}
theorem bytesV_cut (bs : List UInt8) (lo hi : Nat) : ((bytesV bs).take (hi * 1)).drop (lo * 1) = bytesV ((bs.take hi).drop lo) := by
  simp [bytesV, List.map_take, List.map_drop]
theorem cut_len {bs : List UInt8} {lo hi : Nat} (h : hi ≤ bs.length) : ((bs.take hi).drop lo).length = hi - lo := by
  rw [List.length_drop, List.length_take]; omega
/-- A part of some bytes. -/
theorem _root_.Go.VC.Ro.bcut {F : Nat → Prop} (k : Ro F h a (bytesV bs)) (hl : bs.length = l) {lo hi mx : Nat} {x y z : Int} (hx : x = lo) (hy : y = hi) (hz : z = mx) (h1 : lo ≤ hi) (h2 : hi ≤ l) (h3 : hi ≤ mx) (h4 : mx ≤ c) {K : Option Addr → Nat → Nat → Prop}
    (q : ∀ a', Ro F h a' (bytesV ((bs.take hi).drop lo)) → ((bs.take hi).drop lo).length = hi - lo → K a' (hi - lo) (mx - lo)) : VSlice 1 a c x y z K :=
  k.cut (by rw [bytesV_len, hl, Nat.mul_one]) hx hy hz h1 h2 h3 h4 fun a' r hlen => q a' (by rw [← bytesV_cut]; exact r) (cut_len (by omega))
theorem eqStr (bs : List UInt8) (m : List UInt8) : strEq ⟨bs.toArray⟩ ⟨m.toArray⟩ = decide (bs = m) := by
  have e : ∀ l : List UInt8, (ByteArray.mk l.toArray).toList = l := by
    intro l
    rw [ByteArray.toList_eq]
  unfold strEq
  rw [e, e]
  by_cases h : bs = m <;> simp [h]
theorem take_next {α : Type} {xs : List α} {j : Nat} {x : α} (h : xs[j]? = some x) : xs.take (j + 1) = xs.take j ++ [x] := by rw [List.take_add_one, h]; rfl
theorem ne_u8 (x y : UInt8) : ((x.toNat : Int) != (y.toNat : Int)) = decide (x ≠ y) := by
  by_cases h : x = y
  · subst h; simp
  · have : x.toNat ≠ y.toNat := fun e => h (UInt8.toNat_inj.1 e)
    have : (x.toNat : Int) ≠ (y.toNat : Int) := by omega
    simp [h, this]
theorem same_spec (hs : Sl h a (bytesV bs)) (hl : bs.length = l) (ht : Sl h b (bytesV cs)) (hl2 : cs.length = l2) (hb : l < 9223372036854775807) : CallsH Tryd.prog 14 #[.slice a l c, .slice b l2 c2] h (fun v h' => v = .bool (decide (bs = cs)) ∧ h' = h) := by
  refine vf14 _ _ _ _ _ _ h _ ?_
  unfold F14
  refine cond_split (fun hc => ?_) (fun hc => ?_)
  · have hne : (l : Int) ≠ l2 := by simpa using hc
    refine ⟨?_, rfl⟩
    rw [decide_eq_false (fun e => hne (by subst e; omega))]
  have hll : l = l2 := by
    have : (l : Int) = l2 := by simpa using hc
    omega
  subst hll
  clear hc
  refine ⟨fun n hh _ i => ∃ j : Nat, i = j ∧ j ≤ l ∧ n = l - j ∧ hh = h ∧ bs.take j = cs.take j, ⟨_, 0, rfl, by omega, rfl, rfl, rfl⟩, ?_⟩
  rintro n hh _ _ i ⟨j, rfl, hj, rfl, rfl, he⟩
  refine cond_split (fun hc => ?_) (fun hc => ?_)
  · have hjl : j < l := Int.ofNat_lt.1 (of_decide_eq_true hc)
    refine hs.one hl (by omega) (by omega) fun ad x hx hcell => ⟨_, hcell, ht.one hl2 (by omega) (by omega) fun ad2 y hy hcell2 => ⟨_, hcell2, ?_⟩⟩
    rw [Int.toNat_natCast] at hx hy
    rw [ne_u8]
    refine cond_split (fun hd => ?_) (fun hd => ?_)
    · refine ⟨?_, rfl⟩
      rw [decide_eq_false]
      intro e
      subst e
      rw [hx] at hy
      cases hy
      simp at hd
    · have hxy : x = y := by simpa using of_decide_eq_false hd
      refine ⟨_, by omega, j + 1, wrap_nat hjl (by omega), hjl, rfl, rfl, ?_⟩
      rw [take_next hx, take_next hy, he, hxy]
  · have hjl : j = l := by
      have : ¬ (j : Int) < l := of_decide_eq_false hc
      omega
    subst hjl
    rw [List.take_of_length_le (by omega), List.take_of_length_le (by omega)] at he
    exact ⟨by rw [decide_eq_true he], rfl⟩
def gs (bs : Bytes) : Nat → Nat
  | 0 => 0
  | n + 1 => gs bs n + ((bs.getD n 0).toNat % 128) * 128 ^ n
theorem gs_lt (bs : Bytes) : ∀ n, gs bs n < 128 ^ n
  | 0 => by simp [gs]
  | n + 1 => by
    have h1 := gs_lt bs n
    have h2 : (bs.getD n 0).toNat % 128 ≤ 127 := by omega
    have := Nat.mul_le_mul_right (128 ^ n) h2
    rw [gs, Nat.pow_succ]; omega
theorem getD_of {bs : Bytes} {n : Nat} {x : UInt8} (h : bs[n]? = some x) : bs.getD n 0 = x := by simp [List.getD, h]
theorem drop_of {bs : Bytes} {n : Nat} {x : UInt8} (h : bs[n]? = some x) : bs.drop n = x :: bs.drop (n + 1) := by
  obtain ⟨hlt, he⟩ := List.getElem?_eq_some_iff.1 h
  rw [List.drop_eq_getElem_cons hlt, he]
theorem scan (bs : Bytes) : ∀ n, n ≤ 9 → n ≤ bs.length → (∀ i x, i < n → bs[i]? = some x → 128 ≤ x.toNat) → getZ 0 0 bs = getZ n (gs bs n) (bs.drop n)
  | 0, _, _, _ => rfl
  | n + 1, h9, hl, hk => by
    obtain ⟨x, hx⟩ : ∃ x, bs[n]? = some x := ⟨_, List.getElem?_eq_getElem (by omega)⟩
    rw [scan bs n (by omega) (by omega) (fun i x hi => hk i x (by omega)), drop_of hx]
    have := hk n x (by omega) hx
    rw [getZ, if_neg (by omega), if_pos this, gs, getD_of hx]
section
variable {N : Nat} (hlead : ∀ i x, i < N → bs[i]? = some x → 128 ≤ x.toNat)
include hlead
theorem scan_end (h9 : N ≤ 9) (hl : N = bs.length) : getN bs = .err 30 := by
  unfold getN
  rw [scan bs N h9 (by omega) hlead, List.drop_of_length_le (by omega), getZ]
theorem scan_ten (h10 : N = 10) (hl : N ≤ bs.length) : getN bs = .err 31 := by
  subst h10
  obtain ⟨x, hx⟩ : ∃ x, bs[9]? = some x := ⟨_, List.getElem?_eq_getElem (by omega)⟩
  have := hlead 9 x (by omega) hx
  unfold getN
  rw [scan bs 9 (by omega) (by omega) (fun i x hi => hlead i x (by omega)), drop_of hx, getZ, if_pos (by omega)]
theorem scan_nine {x : UInt8} (h9 : N = 9) (hx : bs[9]? = some x) (h1 : 1 < x.toNat) : getN bs = .err 31 := by
  subst h9
  have hlt := (List.getElem?_eq_some_iff.1 hx).1
  unfold getN
  rw [scan bs 9 (by omega) (by omega) hlead, drop_of hx, getZ, if_pos (by omega)]
theorem scan_last {x : UInt8} (h9 : N ≤ 9) (hx : bs[N]? = some x) (h1 : x.toNat < 128) (h91 : N = 9 → x.toNat ≤ 1) : getZ 0 0 bs = if x.toNat = 0 ∧ 0 < N then .err 31 else .ok (gs bs (N + 1)) (N + 1) := by
  have hlt := (List.getElem?_eq_some_iff.1 hx).1
  rw [scan bs N h9 (by omega) hlead, drop_of hx, getZ, if_neg (by omega), if_neg (by omega), gs, getD_of hx, Nat.mod_eq_of_lt h1]
theorem scan_same {x : UInt8} (h9 : N ≤ 9) (hx : bs[N]? = some x) (h1 : x.toNat < 128) (h91 : N = 9 → x.toNat ≤ 1) :
    (if decide (putN (zag (gs bs (N + 1))) = (bs.take (N + 1)).drop 0) then Rd.ok (zag (gs bs (N + 1))) (N + 1) else .err 31) = getN bs := by
  have hlt := (List.getElem?_eq_some_iff.1 hx).1
  have key := scan_last hlead h9 hx h1 h91
  have ep : putN (zag (gs bs (N + 1))) = putZ 9 (gs bs (N + 1)) := by unfold putN; rw [zig_zag]
  rw [ep, List.drop_zero]
  unfold getN
  by_cases h0 : x.toNat = 0 ∧ 0 < N
  · rw [if_pos h0] at key
    rw [key, if_neg]
    intro he
    have he := of_decide_eq_true he
    have h2 : gs bs (N + 1) < 2 * 128 ^ 9 := by
      by_cases h9' : N = 9
      · subst h9'
        have := gs_lt bs 9
        rw [gs, getD_of hx]
        have e2 : x.toNat % 128 ≤ 1 := by omega
        have := Nat.mul_le_mul_right (128 ^ 9) e2
        omega
      · have := gs_lt bs (N + 1)
        have : 128 ^ (N + 1) ≤ 128 ^ 9 := Nat.pow_le_pow_right (by omega) (by omega)
        omega
    have hg := get_put 9 0 (gs bs (N + 1)) 0 [] rfl h2 (fun h => by omega)
    rw [List.append_nil, he] at hg
    have hx' : (bs.take (N + 1))[N]? = some x := by rw [List.getElem?_take, if_pos (by omega), hx]
    have key2 := scan_last (bs := bs.take (N + 1)) (N := N) (fun i y hi hy => hlead i y hi (by rw [List.getElem?_take, if_pos (by omega)] at hy; exact hy)) h9 hx' h1 h91
    rw [if_pos h0] at key2
    rw [key2] at hg
    cases hg
  · rw [if_neg h0] at key
    obtain ⟨z, e1, e2, _, e4, e5⟩ := put_get bs 9 0 0 _ _ rfl key
    have : z = gs bs (N + 1) := by omega
    subst this
    rw [key, if_pos]
    refine decide_eq_true ?_
    rw [← e5]
    congr 1
    omega
end
end Go.Proofs.YtgdgebmlcgohhaaDoor.F
