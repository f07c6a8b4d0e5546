/- Package wire: a number is read. Conditions: none. -/
import Derived.Test.YtofaihacmoacjaaDoorW2
namespace Go.Proofs.YtofaihacmoacjaaDoor.F
open Go Go.VC Go.Proofs
set_option linter.unusedSimpArgs false
set_option linter.unusedVariables false
set_option maxRecDepth 100000
attribute [local irreducible] CallsH RunsTo PureTo

variable {S F G : Nat → Prop} {h0 h h1 : Heap} {L R L' : List A} {a b : Option Addr} {l c l2 c2 : Nat} {bs cs : List UInt8}
theorem and127 (x : UInt8) : bitsOp .and .u8 (x.toNat : Int) 127 = ((x.toNat % 128 : Nat) : Int) := by
  have key : ∀ x : Fin 256, IntKind.u8.wrap ((BitVec.ofInt 8 (x.val : Int) &&& BitVec.ofInt 8 127).toNat : Int) = ((x.val % 128 : Nat) : Int) := by decide +kernel
  exact key ⟨x.toNat, x.toNat_lt⟩
theorem or_sum {z x i : Nat} (hi : i ≤ 9) (hz : z < 128 ^ i) (hx : x * 128 ^ i < 18446744073709551616) : bitsOp .or .u64 (z : Int) ((x * 128 ^ i : Nat) : Int) = ((z + x * 128 ^ i : Nat) : Int) := by
  show IntKind.u64.wrap ((BitVec.ofInt 64 _ ||| BitVec.ofInt 64 _).toNat : Int) = _
  have hp : 128 ^ i = 2 ^ (7 * i) := by rw [Nat.pow_mul]
  have h9 : 128 ^ i ≤ 128 ^ 9 := Nat.pow_le_pow_right (by omega) hi
  have e9 : (128 : Nat) ^ 9 = 9223372036854775808 := rfl
  rw [BitVec.toNat_or, ofInt64 rfl (by omega), ofInt64 rfl hx, wrap_u64]
  have e : z ||| x * 128 ^ i = z + x * 128 ^ i := by
    rw [hp] at hz ⊢
    rw [← Nat.shiftLeft_eq, Nat.or_comm, ← Nat.shiftLeft_add_eq_or_of_lt hz, Nat.add_comm]
  rw [e]
  have hlt : z + x * 128 ^ i < 18446744073709551616 := by
    rw [← e]
    have h1 : z < 2 ^ 64 := by omega
    have h2 : x * 128 ^ i < 2 ^ 64 := hx
    exact Nat.or_lt_two_pow h1 h2
  omega
theorem zag_ops {z : Nat} (h : z < 18446744073709551616) : bitsOp .xor .i64 (IntKind.i64.wrap (Int.fdiv (z : Int) (2 ^ (min (Int.toNat 1) (IntKind.bits .u64))))) (IntKind.i64.wrap (0 - IntKind.i64.wrap (bitsOp .and .u64 (z : Int) 1))) = zag z := by
  have e1 : (2 : Int) ^ (min (Int.toNat 1) (IntKind.bits .u64)) = 2 := rfl
  have e2 : bitsOp .and .u64 (z : Int) 1 = ((z % 2 : Nat) : Int) := by
    show IntKind.u64.wrap ((BitVec.ofInt 64 _ &&& BitVec.ofInt 64 1).toNat : Int) = _
    have e : (BitVec.ofInt 64 1).toNat = 1 := rfl
    rw [BitVec.toNat_and, ofInt64 rfl h, e, Nat.and_one_is_mod, wrap_u64]; omega
  rw [e1, e2, Int.fdiv_eq_ediv_of_nonneg _ (by omega), wrap_id (n := (z : Int) / 2) (by omega) (by omega), wrap_id (n := ((z % 2 : Nat) : Int)) (by omega) (by omega), wrap_id (n := 0 - ((z % 2 : Nat) : Int)) (by omega) (by omega)]
  show IntKind.i64.wrap ((BitVec.ofInt 64 _ ^^^ BitVec.ofInt 64 _).toNat : Int) = _
  have ez : ((z : Int) / 2) = ((z / 2 : Nat) : Int) := by omega
  rw [ez]
  unfold zag
  by_cases hz : z % 2 = 0
  · rw [if_pos hz, hz]
    have e6 : BitVec.ofInt 64 (0 - ((0 : Nat) : Int)) = 0#64 := rfl
    rw [e6, BitVec.xor_zero, ofInt64 rfl (by omega), wrap_id (by omega) (by omega)]
  · have h1 : z % 2 = 1 := by omega
    rw [if_neg hz, h1]
    have e6 : BitVec.ofInt 64 (0 - ((1 : Nat) : Int)) = BitVec.allOnes 64 := rfl
    rw [e6, BitVec.xor_allOnes, BitVec.toNat_not, ofInt64 rfl (by omega)]
    have e7 : ((2 ^ 64 - 1 - z / 2 : Nat) : Int) = 18446744073709551615 - ((z / 2 : Nat) : Int) := by omega
    rw [e7]
    simp only [IntKind.wrap, IntKind.signed, IntKind.bits]
    simp
    omega
def rdV (r : Rd Int) : Value := match r with
  | .ok x n => .tuple #[.int .i64 x, .int .i64 n, .int .i64 0]
  | .err e => .tuple #[.int .i64 0, .int .i64 0, .int .i64 e]
theorem pow7 (i : Nat) (hi : i ≤ 9) : (2 : Int) ^ (min (Int.toNat (IntKind.i64.wrap (7 * (i : Int)))) (IntKind.bits .u64)) = ((128 ^ i : Nat) : Int) := by
  rw [wrap_id (by omega) (by omega)]
  have e : min (Int.toNat (7 * (i : Int))) (IntKind.bits .u64) = 7 * i := by
    show min _ 64 = _
    omega
  rw [e]
  have : (128 : Nat) ^ i = 2 ^ (7 * i) := by rw [Nat.pow_mul]
  rw [this]; simp
theorem int_spec (hs : Sl h a (bytesV bs)) (hl : bs.length = l) (hb : l < 9223372036854775807) : CallsH Tryd.prog 23 #[.slice a l c] h (fun v h' => v = rdV (getN bs) ∧ h' = h) := by
  refine vf23 _ _ _ h _ ?_
  unfold F23
  refine ⟨fun m hh _ _ _ z_ i => ∃ j acc : Nat, i = j ∧ j ≤ l ∧ j ≤ 9 ∧ m = l - j ∧ hh = h ∧ z_ = acc ∧ acc < 128 ^ j ∧ getZ j acc (bs.drop j) = getZ 0 0 bs, ⟨_, 0, 0, rfl, by omega, by omega, rfl, rfl, rfl, by simp, rfl⟩, ?_⟩
  rintro m hh _ _ _ _ z_ i ⟨j, acc, rfl, hj, hj9, rfl, rfl, rfl, hacc, hg⟩
  refine cond_split (fun hc => ?_) (fun hc => ?_)
  · have hjl : j < l := Int.ofNat_lt.1 (of_decide_eq_true hc)
    refine hs.one (f := byteV) hl (by omega) (by omega) fun ad x hx hcx => ⟨_, hcx, ?_⟩
    rw [Int.toNat_natCast] at hx
    have hx8 := x.toNat_lt
    have hd : bs.drop j = x :: bs.drop (j + 1) := by
      obtain ⟨hlt, he⟩ := List.getElem?_eq_some_iff.1 hx
      rw [List.drop_eq_getElem_cons hlt, he]
    rw [hd, getZ] at hg
    rw [pow7 j hj9, and127]
    refine cond_split (fun h9 => cond_split (fun h1 => ?_) (fun h1 => ?_)) (fun h9 => ?_)
    · have h9 : j = 9 := by
        have : (j : Int) = 9 := by simpa using h9
        omega
      have h1 : 1 < x.toNat := by
        have : (x.toNat : Int) > 1 := of_decide_eq_true h1
        omega
      rw [if_pos ⟨h9, h1⟩] at hg
      refine ⟨?_, rfl⟩
      unfold getN
      rw [← hg]; rfl
    · have h1 : ¬ 1 < x.toNat := by
        have : ¬ (x.toNat : Int) > 1 := of_decide_eq_false h1
        omega
      have h91 : j = 9 → ¬ 1 < x.toNat := fun _ => h1
      refine ⟨by rw [wrap_id (by omega) (by omega)]; omega, ?_⟩
      have hp9 : 128 ^ j ≤ 128 ^ 9 := Nat.pow_le_pow_right (by omega) hj9
      have e9 : (128 : Nat) ^ 9 = 9223372036854775808 := rfl
      have hxm : x.toNat % 128 * 128 ^ j < 18446744073709551616 := by
        by_cases h9 : j = 9
        · subst h9
          have := h91 rfl
          have e2 : x.toNat % 128 ≤ 1 := by omega
          have := Nat.mul_le_mul_right (128 ^ 9) e2
          omega
        · have : 128 ^ j ≤ 128 ^ 8 := Nat.pow_le_pow_right (by omega) (by omega)
          have e8 : (128 : Nat) ^ 8 = 72057594037927936 := rfl
          have h1 : x.toNat % 128 ≤ 127 := by omega
          have := Nat.mul_le_mul h1 this
          omega
      have ew : IntKind.u64.wrap (IntKind.u64.wrap ((x.toNat % 128 : Nat) : Int) * ((128 ^ j : Nat) : Int)) = ((x.toNat % 128 * 128 ^ j : Nat) : Int) := by
        rw [wrap_u64, wrap_u64, Int.emod_eq_of_lt (a := ((x.toNat % 128 : Nat) : Int)) (by omega) (by omega), ← Int.natCast_mul]
        omega
      rw [ew, or_sum hj9 hacc hxm]
      have hsum : acc + x.toNat % 128 * 128 ^ j < 128 ^ (j + 1) := by
        have h1 : x.toNat % 128 ≤ 127 := by omega
        have := Nat.mul_le_mul_right (128 ^ j) h1
        rw [Nat.pow_succ]; omega
      have h64 : acc + x.toNat % 128 * 128 ^ j < 18446744073709551616 := by
        by_cases h9 : j = 9
        · subst h9
          have := h91 rfl
          have e2 : x.toNat % 128 ≤ 1 := by omega
          have := Nat.mul_le_mul_right (128 ^ 9) e2
          omega
        · have : 128 ^ (j + 1) ≤ 128 ^ 9 := Nat.pow_le_pow_right (by omega) (by omega)
          omega
      rw [zag_ops h64]
      have hn1 : ¬ (j = 9 ∧ 1 < x.toNat) := fun h => by have := h91 h.1; omega
      rw [if_neg hn1] at hg
      refine cond_split (fun hc => ?_) (fun hc => ?_)
      · have h128 : 128 ≤ x.toNat := by
          have : (x.toNat : Int) ≥ 128 := of_decide_eq_true hc
          omega
        rw [if_pos h128] at hg
        refine ⟨l - (j + 1), by omega, j + 1, acc + x.toNat % 128 * 128 ^ j, by rw [wrap_id (by omega) (by omega)]; omega, hjl, ?_, rfl, rfl, rfl, hsum, hg⟩
        by_cases h9 : j = 9
        · have := h91 h9
          omega
        · omega
      · have h128 : x.toNat < 128 := by
          have : ¬ (x.toNat : Int) ≥ 128 := of_decide_eq_false hc
          omega
        rw [if_neg (by omega)] at hg
        have em : x.toNat % 128 = x.toNat := Nat.mod_eq_of_lt h128
        rw [em]
        have ei : IntKind.i64.wrap ((j : Int) + 1) = ((j + 1 : Nat) : Int) := by rw [wrap_id (by omega) (by omega)]; omega
        rw [ei]
        have okk : ¬ (x.toNat = 0 ∧ 0 < j) → (Value.tuple #[.int .i64 (zag (acc + x.toNat * 128 ^ j)), .int .i64 ((j + 1 : Nat) : Int), .int .i64 0]) = rdV (getN bs) := fun hne => by
          rw [if_neg hne] at hg
          unfold getN
          rw [← hg]; rfl
        refine cond_split (fun hc0 => cond_split (fun hcj => ?_) (fun hcj => ?_)) (fun hc0 => ?_)
        · have h0 : x.toNat = 0 := by
            have : (x.toNat : Int) = 0 := by simpa using hc0
            omega
          have hjp : 0 < j := by
            have : (j : Int) > 0 := of_decide_eq_true hcj
            omega
          rw [if_pos ⟨h0, hjp⟩] at hg
          refine ⟨?_, rfl⟩
          unfold getN
          rw [← hg]; rfl
        · have hjp : ¬ 0 < j := by
            have : ¬ (j : Int) > 0 := of_decide_eq_false hcj
            omega
          exact ⟨by omega, okk (fun h => hjp h.2), rfl⟩
        · have h0 : x.toNat ≠ 0 := by
            have : (x.toNat : Int) ≠ 0 := by simpa using hc0
            omega
          exact ⟨by omega, okk (fun h => h0 h.1), rfl⟩
    · have h9 : j ≠ 9 := by
        have : (j : Int) ≠ 9 := by simpa using h9
        omega
      have h91 : j = 9 → ¬ 1 < x.toNat := fun h => absurd h h9
      refine ⟨by rw [wrap_id (by omega) (by omega)]; omega, ?_⟩
      have hp9 : 128 ^ j ≤ 128 ^ 9 := Nat.pow_le_pow_right (by omega) hj9
      have e9 : (128 : Nat) ^ 9 = 9223372036854775808 := rfl
      have hxm : x.toNat % 128 * 128 ^ j < 18446744073709551616 := by
        by_cases h9 : j = 9
        · subst h9
          have := h91 rfl
          have e2 : x.toNat % 128 ≤ 1 := by omega
          have := Nat.mul_le_mul_right (128 ^ 9) e2
          omega
        · have : 128 ^ j ≤ 128 ^ 8 := Nat.pow_le_pow_right (by omega) (by omega)
          have e8 : (128 : Nat) ^ 8 = 72057594037927936 := rfl
          have h1 : x.toNat % 128 ≤ 127 := by omega
          have := Nat.mul_le_mul h1 this
          omega
      have ew : IntKind.u64.wrap (IntKind.u64.wrap ((x.toNat % 128 : Nat) : Int) * ((128 ^ j : Nat) : Int)) = ((x.toNat % 128 * 128 ^ j : Nat) : Int) := by
        rw [wrap_u64, wrap_u64, Int.emod_eq_of_lt (a := ((x.toNat % 128 : Nat) : Int)) (by omega) (by omega), ← Int.natCast_mul]
        omega
      rw [ew, or_sum hj9 hacc hxm]
      have hsum : acc + x.toNat % 128 * 128 ^ j < 128 ^ (j + 1) := by
        have h1 : x.toNat % 128 ≤ 127 := by omega
        have := Nat.mul_le_mul_right (128 ^ j) h1
        rw [Nat.pow_succ]; omega
      have h64 : acc + x.toNat % 128 * 128 ^ j < 18446744073709551616 := by
        by_cases h9 : j = 9
        · subst h9
          have := h91 rfl
          have e2 : x.toNat % 128 ≤ 1 := by omega
          have := Nat.mul_le_mul_right (128 ^ 9) e2
          omega
        · have : 128 ^ (j + 1) ≤ 128 ^ 9 := Nat.pow_le_pow_right (by omega) (by omega)
          omega
      rw [zag_ops h64]
      have hn1 : ¬ (j = 9 ∧ 1 < x.toNat) := fun h => by have := h91 h.1; omega
      rw [if_neg hn1] at hg
      refine cond_split (fun hc => ?_) (fun hc => ?_)
      · have h128 : 128 ≤ x.toNat := by
          have : (x.toNat : Int) ≥ 128 := of_decide_eq_true hc
          omega
        rw [if_pos h128] at hg
        refine ⟨l - (j + 1), by omega, j + 1, acc + x.toNat % 128 * 128 ^ j, by rw [wrap_id (by omega) (by omega)]; omega, hjl, ?_, rfl, rfl, rfl, hsum, hg⟩
        by_cases h9 : j = 9
        · have := h91 h9
          omega
        · omega
      · have h128 : x.toNat < 128 := by
          have : ¬ (x.toNat : Int) ≥ 128 := of_decide_eq_false hc
          omega
        rw [if_neg (by omega)] at hg
        have em : x.toNat % 128 = x.toNat := Nat.mod_eq_of_lt h128
        rw [em]
        have ei : IntKind.i64.wrap ((j : Int) + 1) = ((j + 1 : Nat) : Int) := by rw [wrap_id (by omega) (by omega)]; omega
        rw [ei]
        have okk : ¬ (x.toNat = 0 ∧ 0 < j) → (Value.tuple #[.int .i64 (zag (acc + x.toNat * 128 ^ j)), .int .i64 ((j + 1 : Nat) : Int), .int .i64 0]) = rdV (getN bs) := fun hne => by
          rw [if_neg hne] at hg
          unfold getN
          rw [← hg]; rfl
        refine cond_split (fun hc0 => cond_split (fun hcj => ?_) (fun hcj => ?_)) (fun hc0 => ?_)
        · have h0 : x.toNat = 0 := by
            have : (x.toNat : Int) = 0 := by simpa using hc0
            omega
          have hjp : 0 < j := by
            have : (j : Int) > 0 := of_decide_eq_true hcj
            omega
          rw [if_pos ⟨h0, hjp⟩] at hg
          refine ⟨?_, rfl⟩
          unfold getN
          rw [← hg]; rfl
        · have hjp : ¬ 0 < j := by
            have : ¬ (j : Int) > 0 := of_decide_eq_false hcj
            omega
          exact ⟨by omega, okk (fun h => hjp h.2), rfl⟩
        · have h0 : x.toNat ≠ 0 := by
            have : (x.toNat : Int) ≠ 0 := by simpa using hc0
            omega
          exact ⟨by omega, okk (fun h => h0 h.1), rfl⟩
  · have hjl : j = l := by
      have : ¬ (j : Int) < l := of_decide_eq_false hc
      omega
    subst hjl
    rw [List.drop_of_length_le (by omega), getZ] at hg
    refine ⟨?_, rfl⟩
    unfold getN
    rw [← hg]; rfl
end Go.Proofs.YtofaihacmoacjaaDoor.F
