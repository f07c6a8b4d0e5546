/- Package wire, and the document's: a number is written. Conditions: none. -/
import Derived.Test.YtofaihacmoacjaaDoorW1
import Derived.Test.YtofaihacmoacjaaDoorGA
namespace Go.Proofs.YtofaihacmoacjaaDoor.F
open Go Go.VC Go.Proofs
set_option linter.unusedSimpArgs false
set_option linter.unusedVariables false
set_option maxRecDepth 100000
attribute [local irreducible] CallsH RunsTo PureTo

variable {S F G : Nat → Prop} {h0 h h1 : Heap} {L R L' : List A} {a b : Option Addr} {l c l2 c2 : Nat} {bs cs : List UInt8}
theorem und30 : Tryd.prog.underlying 30 = some (.slice 5) := by kernel_rfl
theorem T30 : SlTy Tryd.prog 30 5 1 1 (.int .u8 0) := ⟨und30, by kernel_rfl, rfl, by omega, by omega⟩
abbrev BV (a : Option Addr) (l c : Nat) (bs : List UInt8) : A := A.vec 5 1 a l c (bytesV bs)
theorem byteV_of (m : Nat) : byteV (UInt8.ofNat m) = .int .u8 ((m : Int) % 256) := by
  simp only [byteV, UInt8.toNat_ofNat']
  congr 1
theorem or128 (z : Nat) : bitsOp .or .u8 ((z : Int) % 256) 128 = ((128 + z % 128 : Nat) : Int) := by
  have key : ∀ x : Fin 256, IntKind.u8.wrap ((BitVec.ofInt 8 (x.val : Int) ||| BitVec.ofInt 8 128).toNat : Int) = ((128 + x.val % 128 : Nat) : Int) := by decide +kernel
  have := key ⟨z % 256, by omega⟩
  show IntKind.u8.wrap ((BitVec.ofInt 8 _ ||| BitVec.ofInt 8 _).toNat : Int) = _
  have e : ((z : Int) % 256) = ((z % 256 : Nat) : Int) := by omega
  rw [e, this]
  simp only
  omega
theorem ofInt64 {a : Int} {n : Nat} (h : a = n) (hn : n < 18446744073709551616) : (BitVec.ofInt 64 a).toNat = n := by
  subst h
  rw [BitVec.toNat_ofInt]; omega
theorem xor_zig {n : Int} (h1 : -9223372036854775808 ≤ n) (h2 : n < 9223372036854775808) :
    bitsOp .xor .u64 (IntKind.u64.wrap (IntKind.u64.wrap n * 2 ^ (min (Int.toNat 1) (IntKind.bits .u64)))) (IntKind.u64.wrap (Int.fdiv n (2 ^ (min (Int.toNat 63) (IntKind.bits .i64))))) = (zig n : Int) := by
  have e1 : (2 : Int) ^ (min (Int.toNat 1) (IntKind.bits .u64)) = 2 := rfl
  have e2 : (2 : Int) ^ (min (Int.toNat 63) (IntKind.bits .i64)) = 9223372036854775808 := rfl
  rw [e1, e2]
  show IntKind.u64.wrap ((BitVec.ofInt 64 _ ^^^ BitVec.ofInt 64 _).toNat : Int) = _
  have hz := zig_lt h1 h2
  rw [Int.fdiv_eq_ediv_of_nonneg _ (by omega)]
  by_cases h : 0 ≤ n
  · have e3 : n / 9223372036854775808 = 0 := by omega
    have e4 : IntKind.u64.wrap 0 = 0 := by rw [wrap_u64]; omega
    have e5 : IntKind.u64.wrap (IntKind.u64.wrap n * 2) = ((zig n : Nat) : Int) := by
      rw [wrap_u64, wrap_u64]; unfold zig; rw [if_pos h]; omega
    have e6 : BitVec.ofInt 64 0 = 0#64 := rfl
    rw [e3, e4, e5, e6, BitVec.xor_zero, ofInt64 rfl hz, wrap_u64]; omega
  · have e3 : n / 9223372036854775808 = -1 := by omega
    have e4 : IntKind.u64.wrap (-1) = 18446744073709551615 := by rw [wrap_u64]; omega
    have e6 : BitVec.ofInt 64 18446744073709551615 = BitVec.allOnes 64 := rfl
    have hx : IntKind.u64.wrap (IntKind.u64.wrap n * 2) = ((18446744073709551615 - zig n : Nat) : Int) := by
      rw [wrap_u64, wrap_u64]; unfold zig; rw [if_neg h]; omega
    rw [e3, e4, e6, hx, BitVec.xor_allOnes, BitVec.toNat_not, ofInt64 rfl (by omega), wrap_u64]; omega
/-- One byte more. -/
theorem app_byte {x : UInt8} {bb : Nat} (k : St S h0 h (A.blk bb #[byteV x] 5 :: BV a l c bs :: R)) (hb : l + 1 ≤ 140737488355328) {K : KV}
    (q : ∀ a' c' h', St S h0 h' (BV a' (l + 1) c' (bs ++ [x]) :: R) → K (.slice a' (l + 1) c') h') : RunsTo Tryd.prog (Builtin.append_ #[30, 30] 30 #[.slice a l c, .slice (some ⟨bb, 0, none⟩) 1 1]) h K := by
  have hsl : Sl h (some ⟨bb, 0, none⟩) (bytesV [x]) := k.slB (b := bb)
  refine k.pull1.app T30 und30 (by simp) (Src.slice hsl rfl) (oneC_bytes [x]) (by omega) fun a' c' h' k => q a' c' h' ?_
  rw [← bytesV_app] at k
  exact k.pull1.drop
theorem putInt_spec {n : Int} (k : Holds [BV a l c bs] F h) (h1 : -9223372036854775808 ≤ n) (h2 : n < 9223372036854775808) (hb : l ≤ 140737488355000) :
    CallsH Tryd.prog 56 #[.slice a l c, .int .i64 n] h (fun v h' => ∃ a' c', v = .slice a' (l + (putN n).length) c' ∧ St F h h' [BV a' (l + (putN n).length) c' (bs ++ putN n)]) := by
  refine vf56 _ _ _ _ h _ ?_
  unfold F56
  rw [xor_zig h1 h2]
  have k := St.start k
  have hz := zig_lt h1 h2
  refine ⟨by omega, by omega, fun m hh b' lb cb z_ => ∃ (z f : Nat) (dn : Bytes), z_ = z ∧ z = m ∧ z < 2 * 128 ^ f ∧ f + dn.length = 9 ∧ dn ++ putZ f z = putN n ∧ lb = l + dn.length ∧ St F h hh [BV b' lb cb (bs ++ dn)], ⟨_, zig n, 9, [], rfl, rfl, by omega, rfl, rfl, rfl, by simpa using k⟩, ?_⟩
  clear k
  rintro m hh _ b' lb cb z_ ⟨z, f, dn, rfl, rfl, hzf, hf, hdn, rfl, k⟩
  refine cond_split (fun hc => ?_) (fun hc => ?_)
  · have hz : 128 ≤ z := by
      have : (z : Int) ≥ 128 := of_decide_eq_true hc
      omega
    obtain ⟨g, rfl⟩ : ∃ g, f = g + 1 := by
      cases f with
      | zero => simp at hzf; omega
      | succ g => exact ⟨g, rfl⟩
    have eb : (.int .u8 (bitsOp .or .u8 (IntKind.u8.wrap (z : Int)) 128) : Value) = byteV (UInt8.ofNat (128 + z % 128)) := by
      rw [wrap_u8, or128, byteV_of]
      congr 1; omega
    rw [eb]
    refine k.vnew fun b8 h9 k => app_byte k (by omega) fun a12 c12 h11 k => ⟨_, _, _, rfl, by omega, z / 128, by omega, z / 128, g, dn ++ [UInt8.ofNat (128 + z % 128)], ?_, rfl, ?_, by simp; omega, ?_, by simp; omega, ?_⟩
    · rw [Int.fdiv_eq_ediv_of_nonneg _ (Int.pow_nonneg (by omega))]
      show (z : Int) / 128 = _
      omega
    · rw [Nat.pow_succ] at hzf; omega
    · rw [← hdn, List.append_assoc]
      conv => rhs; rw [putZ, if_neg (by omega)]
      rfl
    · rw [← List.append_assoc]; exact k
  · have hz : z < 128 := by
      have : ¬ (z : Int) ≥ 128 := of_decide_eq_false hc
      omega
    have ep : putZ f z = [UInt8.ofNat z] := by
      cases f with
      | zero => rfl
      | succ f => rw [putZ, if_pos hz]
    have eb : (.int .u8 (IntKind.u8.wrap (z : Int)) : Value) = byteV (UInt8.ofNat z) := by rw [wrap_u8, byteV_of]
    rw [eb]
    have hlen : (putN n).length = dn.length + 1 := by rw [← hdn, ep]; simp
    refine k.vnew fun b13 h14 k => app_byte k (by omega) fun a17 c17 h16 k => ⟨_, _, _, rfl, a17, c17, by rw [hlen]; rfl, ?_⟩
    rw [hlen, ← hdn, ep, ← List.append_assoc]
    exact k
theorem putN_len (n : Int) : 1 ≤ (putN n).length ∧ (putN n).length ≤ 10 := putZ_len 9 (zig n)
theorem PutInt_spec {n : Int} (h1 : -9223372036854775808 ≤ n) (h2 : n < 9223372036854775808) :
    CallsH Tryd.prog 21 #[.int .i64 n] h (fun v h' => ∃ a' c', v = .slice a' (putN n).length c' ∧ St none_ h h' [BV a' (putN n).length c' (putN n)]) := by
  refine vf21 _ h _ ?_
  unfold F21
  have k := ((St.fresh h).vnil 5 (sz := 1) (by omega)).re (y := BV none 0 0 []) rfl
  obtain ⟨F, G, k1, kG, d, hF, back⟩ := k.frameA
  refine CallsH.mono (putInt_spec k1 h1 h2 (by omega)) ?_
  rintro _ h2 ⟨a', c', rfl, k2⟩
  have k := back k2
  rw [Nat.zero_add, List.nil_append] at k
  exact ⟨_, _, _, rfl, a', c', by rw [Nat.zero_add], k⟩
theorem rputInt_spec {n : Int} (h1 : -9223372036854775808 ≤ n) (h2 : n < 9223372036854775808) :
    CallsH Tryd.prog 22 #[.int .i64 n] h (fun v h' => ∃ a' c', v = .slice a' (putN n).length c' ∧ St none_ h h' [BV a' (putN n).length c' (putN n)]) := by
  refine vf22 _ h _ ?_
  unfold F22
  have hz := zig_lt h1 h2
  refine ⟨fun h' z => h' = h ∧ z = (zig n : Int), cond_split (fun hc => ⟨rfl, ?_⟩) (fun hc => ⟨rfl, ?_⟩), ?_⟩
  · have hn : n < 0 := of_decide_eq_true hc
    rw [wrap_id (n := n + 1) (by omega) (by omega), wrap_id (by omega) (by omega), wrap_u64, wrap_u64, wrap_u64]
    unfold zig; rw [if_neg (by omega)]; omega
  · have hn : ¬ n < 0 := of_decide_eq_false hc
    rw [wrap_u64, wrap_u64]
    unfold zig; rw [if_pos (by omega)]; omega
  rintro h _ _ ⟨rfl, rfl⟩
  have k := ((St.fresh h).vnil 5 (sz := 1) (by omega)).re (y := BV none 0 0 []) rfl
  refine ⟨fun m hh z_ b' lb cb => ∃ (z f : Nat) (dn : Bytes), z_ = z ∧ z = m ∧ z < 2 * 128 ^ f ∧ f + dn.length = 9 ∧ dn ++ putZ f z = putN n ∧ lb = dn.length ∧ St none_ h hh [BV b' lb cb dn], ⟨_, zig n, 9, [], rfl, rfl, by omega, rfl, rfl, rfl, k⟩, ?_⟩
  clear k
  rintro m hh _ z_ b' lb cb ⟨z, f, dn, rfl, rfl, hzf, hf, hdn, rfl, k⟩
  refine cond_split (fun hc => ?_) (fun hc => ?_)
  · have hz : 128 ≤ z := by
      have : (z : Int) ≥ 128 := of_decide_eq_true hc
      omega
    obtain ⟨g, rfl⟩ : ∃ g, f = g + 1 := by
      cases f with
      | zero => simp at hzf; omega
      | succ g => exact ⟨g, rfl⟩
    have e1 : Int.tmod (z : Int) 128 = ((z % 128 : Nat) : Int) := rfl
    have e2 : Int.tdiv (z : Int) 128 = ((z / 128 : Nat) : Int) := rfl
    have hzl : z < 18446744073709551616 := by
      have : 2 * 128 ^ (g + 1) ≤ 2 * 128 ^ 9 := Nat.mul_le_mul_left _ (Nat.pow_le_pow_right (by omega) (by omega))
      have : (2 : Nat) * 128 ^ 9 = 18446744073709551616 := rfl
      omega
    have eb : (.int .u8 (IntKind.u8.wrap (IntKind.u64.wrap (128 + Int.tmod (z : Int) 128))) : Value) = byteV (UInt8.ofNat (128 + z % 128)) := by
      rw [e1, wrap_u8, wrap_u64, byteV_of]
      congr 1; omega
    rw [eb]
    refine ⟨by omega, k.vnew fun b8 h9 k => app_byte k (by omega) fun a12 c12 h11 k => ⟨_, _, _, rfl, by omega, z / 128, by omega, z / 128, g, dn ++ [UInt8.ofNat (128 + z % 128)], ?_, rfl, ?_, by simp; omega, ?_, by simp, k⟩⟩
    · rw [e2, wrap_u64]; omega
    · rw [Nat.pow_succ] at hzf; omega
    · rw [← hdn, List.append_assoc]
      conv => rhs; rw [putZ, if_neg (by omega)]
      rfl
  · have hz : z < 128 := by
      have : ¬ (z : Int) ≥ 128 := of_decide_eq_false hc
      omega
    have ep : putZ f z = [UInt8.ofNat z] := by
      cases f with
      | zero => rfl
      | succ f => rw [putZ, if_pos hz]
    have eb : (.int .u8 (IntKind.u8.wrap (z : Int)) : Value) = byteV (UInt8.ofNat z) := by rw [wrap_u8, byteV_of]
    rw [eb]
    have hlen : (putN n).length = dn.length + 1 := by rw [← hdn, ep]; simp
    refine k.vnew fun b13 h14 k => app_byte k (by omega) fun a17 c17 h16 k => ⟨_, _, _, rfl, a17, c17, by rw [hlen], ?_⟩
    rw [hlen, ← hdn, ep]
    exact k
end Go.Proofs.YtofaihacmoacjaaDoor.F
