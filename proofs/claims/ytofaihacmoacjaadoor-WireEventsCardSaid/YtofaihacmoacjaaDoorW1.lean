/- Package wire: numbers, in plain Lean. Conditions: none. -/
import Derived.Test.YtofaihacmoacjaaDoorN1
namespace Go.Proofs.YtofaihacmoacjaaDoor.F
open Go Go.VC
set_option linter.unusedSimpArgs false
set_option linter.unusedVariables false

abbrev Bytes := List UInt8
/-- The groups of a number. -/
def putZ : Nat → Nat → Bytes
  | 0, z => [UInt8.ofNat z]
  | f + 1, z => if z < 128 then [UInt8.ofNat z] else UInt8.ofNat (128 + z % 128) :: putZ f (z / 128)
/-- A number with its sign behind. -/
def zig (n : Int) : Nat := if 0 ≤ n then 2 * n.toNat else 2 * (-(n + 1)).toNat + 1
def zag (z : Nat) : Int := if z % 2 = 0 then (z / 2 : Nat) else -((z / 2 : Nat) : Int) - 1
theorem zag_zig (n : Int) : zag (zig n) = n := by
  unfold zag zig
  split <;> split <;> omega
theorem zig_zag (z : Nat) : zig (zag z) = z := by
  unfold zag zig
  split <;> split <;> omega
def putN (n : Int) : Bytes := putZ 9 (zig n)
inductive Rd (α : Type) where
  | ok (x : α) (n : Nat)
  | err (e : Int)
/-- A number's groups, read. -/
def getZ : Nat → Nat → Bytes → Rd Nat
  | _, _, [] => .err 30
  | i, z, c :: r =>
    if i = 9 ∧ 1 < c.toNat then .err 31
    else if 128 ≤ c.toNat then getZ (i + 1) (z + (c.toNat % 128) * 128 ^ i) r
    else if c.toNat = 0 ∧ 0 < i then .err 31
    else .ok (z + c.toNat * 128 ^ i) (i + 1)
def getN (b : Bytes) : Rd Int := match getZ 0 0 b with
  | .ok z n => .ok (zag z) n
  | .err e => .err e
theorem zig_lt {n : Int} (h1 : -9223372036854775808 ≤ n) (h2 : n < 9223372036854775808) : zig n < 18446744073709551616 := by
  unfold zig; split <;> omega
theorem zag_lt {z : Nat} (h : z < 18446744073709551616) : -9223372036854775808 ≤ zag z ∧ zag z < 9223372036854775808 := by
  unfold zag; split <;> omega
theorem putZ_len : ∀ (f z : Nat), 1 ≤ (putZ f z).length ∧ (putZ f z).length ≤ f + 1
  | 0, _ => ⟨Nat.le_refl _, Nat.le_refl _⟩
  | f + 1, z => by
    unfold putZ
    split
    · simp
    · have := putZ_len f (z / 128)
      simp only [List.length_cons]; omega
/-- What is written is read. -/
theorem get_put : ∀ (f i z acc : Nat) (x : Bytes), f + i = 9 → z < 2 * 128 ^ f → (0 < i → 0 < z) → getZ i acc (putZ f z ++ x) = .ok (acc + z * 128 ^ i) (i + (putZ f z).length)
  | 0, i, z, acc, x, hf, hz, hp => by
    have hi : i = 9 := by omega
    subst hi
    have hz : z < 2 := by simpa using hz
    have hp := hp (by omega)
    have e : z = 1 := by omega
    subst e
    show getZ 9 acc (UInt8.ofNat 1 :: x) = _
    rw [getZ, if_neg (by decide), if_neg (by decide), if_neg (by decide)]
    rfl
  | f + 1, i, z, acc, x, hf, hz, hp => by
    unfold putZ
    split
    · rename_i h
      have hn : (UInt8.ofNat z).toNat = z := by rw [UInt8.toNat_ofNat']; omega
      rw [List.singleton_append, getZ, hn, if_neg (by omega), if_neg (by omega), if_neg (by omega)]; rfl
    · rename_i h
      have hn : (UInt8.ofNat (128 + z % 128)).toNat = 128 + z % 128 := by rw [UInt8.toNat_ofNat']; omega
      have hz2 : z / 128 < 2 * 128 ^ f := by
        rw [Nat.pow_succ] at hz
        omega
      rw [List.cons_append, getZ, hn, if_neg (by omega), if_pos (by omega), get_put f (i + 1) (z / 128) _ x (by omega) hz2 (fun _ => by omega)]
      have e1 : (128 + z % 128) % 128 = z % 128 := by omega
      have e2 : acc + (128 + z % 128) % 128 * 128 ^ i + z / 128 * 128 ^ (i + 1) = acc + z * 128 ^ i := by
        rw [e1, Nat.pow_succ, Nat.mul_comm (128 ^ i) 128, ← Nat.mul_assoc, Nat.add_assoc, ← Nat.add_mul]
        congr 2
        omega
      rw [e2, List.length_cons]
      congr 1
      omega
/-- What is read would be written so. -/
theorem put_get : ∀ (b : Bytes) (f i acc w n : Nat), f + i = 9 → getZ i acc b = .ok w n → ∃ z, w = acc + z * 128 ^ i ∧ z < 2 * 128 ^ f ∧ (0 < i → 0 < z) ∧ n = i + (putZ f z).length ∧ b.take (putZ f z).length = putZ f z
  | [], f, i, acc, w, n, hf, h => by cases h
  | c :: r, f, i, acc, w, n, hf, h => by
    have hc := c.toNat_lt
    rw [getZ] at h
    split at h
    · cases h
    rename_i h1
    split at h
    · rename_i h2
      obtain ⟨g, rfl⟩ : ∃ g, f = g + 1 := ⟨f - 1, by omega⟩
      obtain ⟨z, e1, e2, e3, e4, e5⟩ := put_get r g (i + 1) _ w n (by omega) h
      have hz := e3 (by omega)
      have hp : putZ (g + 1) (c.toNat % 128 + z * 128) = c :: putZ g z := by
        rw [putZ, if_neg (by omega)]
        congr 1
        · apply UInt8.toNat_inj.1
          rw [UInt8.toNat_ofNat']; omega
        · congr 1; omega
      refine ⟨c.toNat % 128 + z * 128, ?_, ?_, fun _ => by omega, ?_, ?_⟩
      · rw [e1, Nat.pow_succ, Nat.add_mul, Nat.mul_assoc z, Nat.mul_comm 128, Nat.add_assoc]
      · rw [Nat.pow_succ]; omega
      · rw [hp, e4, List.length_cons]; omega
      · rw [hp, List.length_cons, List.take_succ_cons, e5]
    · rename_i h2
      split at h
      · cases h
      rename_i h3
      cases h
      have hp : putZ f c.toNat = [c] := by
        cases f with
        | zero =>
          show [UInt8.ofNat c.toNat] = _
          rw [UInt8.ofNat_toNat]
        | succ f =>
          rw [putZ, if_pos (by omega), UInt8.ofNat_toNat]
      refine ⟨c.toNat, rfl, ?_, fun hi => by omega, by rw [hp]; rfl, by rw [hp]; rfl⟩
      cases f with
      | zero =>
        have : i = 9 := by omega
        subst this
        rw [Nat.pow_zero]; omega
      | succ f =>
        have : 1 ≤ 128 ^ f := Nat.pow_pos (by omega)
        rw [Nat.pow_succ]; omega
/-- Less of it ends too early. -/
theorem get_short : ∀ (b : Bytes) (i acc w n m : Nat), getZ i acc b = .ok w n → i + m < n → getZ i acc (b.take m) = .err 30
  | [], i, acc, w, n, m, h, hm => by cases h
  | c :: r, i, acc, w, n, m, h, hm => by
    rw [getZ] at h
    split at h
    · cases h
    rename_i h1
    cases m with
    | zero => rfl
    | succ m =>
      rw [List.take_succ_cons, getZ, if_neg h1]
      split at h
      · rename_i h2
        rw [if_pos h2]
        exact get_short r (i + 1) _ w n m h (by omega)
      · rename_i h2
        split at h
        · cases h
        · cases h; omega
end Go.Proofs.YtofaihacmoacjaaDoor.F
