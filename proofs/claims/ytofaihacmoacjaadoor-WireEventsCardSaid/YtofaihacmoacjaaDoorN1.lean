/- Numbers: the kinds' wraps, and words of bits. Conditions: none. -/
import Derived.Test.YtofaihacmoacjaaDoorS2
namespace Go.VC
open Go
set_option linter.unusedSimpArgs false
set_option linter.unusedVariables false

theorem wrap_u8 (n : Int) : IntKind.u8.wrap n = n % 256 := by
  simp only [IntKind.wrap, IntKind.signed, IntKind.bits]; simp
theorem wrap_u32 (n : Int) : IntKind.u32.wrap n = n % 4294967296 := by
  simp only [IntKind.wrap, IntKind.signed, IntKind.bits]; simp
theorem wrap_u64 (n : Int) : IntKind.u64.wrap n = n % 18446744073709551616 := by
  simp only [IntKind.wrap, IntKind.signed, IntKind.bits]; simp
theorem wrap_nat' {k : Nat} (h : k < 9223372036854775808) : IntKind.i64.wrap (k : Int) = k := wrap_id (by omega) (by omega)
theorem ofInt_nat32 (a : BitVec 32) : BitVec.ofInt 32 (a.toNat : Int) = a := by
  apply BitVec.eq_of_toNat_eq
  rw [BitVec.toNat_ofInt]; have := a.isLt; omega
theorem xor32 (a b : BitVec 32) : bitsOp .xor .u32 (a.toNat : Int) (b.toNat : Int) = ((a ^^^ b).toNat : Int) := by
  show IntKind.u32.wrap ((BitVec.ofInt 32 _ ^^^ BitVec.ofInt 32 _).toNat : Int) = _
  rw [ofInt_nat32, ofInt_nat32, wrap_u32]; have := (a ^^^ b).isLt; omega
theorem and32 (a b : BitVec 32) : bitsOp .and .u32 (a.toNat : Int) (b.toNat : Int) = ((a &&& b).toNat : Int) := by
  show IntKind.u32.wrap ((BitVec.ofInt 32 _ &&& BitVec.ofInt 32 _).toNat : Int) = _
  rw [ofInt_nat32, ofInt_nat32, wrap_u32]; have := (a &&& b).isLt; omega
theorem or32 (a b : BitVec 32) : bitsOp .or .u32 (a.toNat : Int) (b.toNat : Int) = ((a ||| b).toNat : Int) := by
  show IntKind.u32.wrap ((BitVec.ofInt 32 _ ||| BitVec.ofInt 32 _).toNat : Int) = _
  rw [ofInt_nat32, ofInt_nat32, wrap_u32]; have := (a ||| b).isLt; omega
theorem shr32 (a : BitVec 32) (n : Nat) : Int.fdiv (a.toNat : Int) (2 ^ n) = ((a >>> n).toNat : Int) := by
  rw [BitVec.toNat_ushiftRight, Nat.shiftRight_eq_div_pow]
  rw [Int.fdiv_eq_ediv_of_nonneg _ (Int.pow_nonneg (by omega))]
  simp
theorem ext32 (b : UInt8) : IntKind.u32.wrap (b.toNat : Int) = ((b.toBitVec.setWidth 32).toNat : Int) := by
  rw [wrap_u32, BitVec.toNat_setWidth]
  have := b.toNat_lt
  have e : b.toBitVec.toNat = b.toNat := rfl
  rw [e]; omega
end Go.VC
