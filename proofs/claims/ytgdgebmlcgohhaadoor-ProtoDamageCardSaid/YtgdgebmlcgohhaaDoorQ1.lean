/- Package proto: numbers of four bytes, the sum. Conditions: none. -/
import Derived.Test.YtgdgebmlcgohhaaDoorPY
import Derived.Test.YtgdgebmlcgohhaaDoorS4
namespace Go.Proofs.YtgdgebmlcgohhaaDoor.F
open Go Go.VC Go.Proofs
set_option linter.unusedSimpArgs false
set_option linter.unusedVariables false
set_option maxRecDepth 100000
attribute [local irreducible] CallsH RunsTo PureTo

/-! ### In plain Lean -/
def be4 (n : Nat) : Bytes := [UInt8.ofNat (n / 16777216), UInt8.ofNat (n / 65536), UInt8.ofNat (n / 256), UInt8.ofNat n]
theorem be4_len (n : Nat) : (be4 n).length = 4 := rfl
def un4' (b0 b1 b2 b3 : UInt8) : Nat := b0.toNat * 16777216 + b1.toNat * 65536 + b2.toNat * 256 + b3.toNat
theorem un4_ex : ∃ f : UInt8 → UInt8 → UInt8 → UInt8 → Nat, f = un4' := ⟨_, rfl⟩
noncomputable def un4 : UInt8 → UInt8 → UInt8 → UInt8 → Nat := Classical.choose un4_ex
theorem un4_eq (b0 b1 b2 b3 : UInt8) : un4 b0 b1 b2 b3 = b0.toNat * 16777216 + b1.toNat * 65536 + b2.toNat * 256 + b3.toNat := by
  have : un4 = un4' := Classical.choose_spec un4_ex
  rw [this]; rfl
theorem un4_lt (b0 b1 b2 b3 : UInt8) : un4 b0 b1 b2 b3 < 4294967296 := by
  have h0 := b0.toNat_lt; have h1 := b1.toNat_lt; have h2 := b2.toNat_lt; have h3 := b3.toNat_lt
  rw [un4_eq]; omega
theorem un4_be {n : Nat} (h : n < 4294967296) : un4 (UInt8.ofNat (n / 16777216)) (UInt8.ofNat (n / 65536)) (UInt8.ofNat (n / 256)) (UInt8.ofNat n) = n := by
  simp only [un4_eq, UInt8.toNat_ofNat']
  omega
theorem be4_un (b0 b1 b2 b3 : UInt8) : be4 (un4 b0 b1 b2 b3) = [b0, b1, b2, b3] := by
  have h0 := b0.toNat_lt; have h1 := b1.toNat_lt; have h2 := b2.toNat_lt; have h3 := b3.toNat_lt
  simp only [be4, un4_eq]
  have e : ∀ (m : Nat) (b : UInt8), m % 256 = b.toNat → UInt8.ofNat m = b := fun m b hm => by
    apply UInt8.toNat_inj.1; rw [UInt8.toNat_ofNat']; exact hm
  rw [e _ b0 (by omega), e _ b1 (by omega), e _ b2 (by omega), e _ b3 (by omega)]
def sumStep (s : Nat × Nat) (x : UInt8) : Nat × Nat := ((s.1 + x.toNat) % 65521, (s.2 + (s.1 + x.toNat) % 65521) % 65521)
def sums (b : Bytes) : Nat × Nat := b.foldl sumStep (1, 0)
theorem sumStep_lt (s : Nat × Nat) (x : UInt8) : (sumStep s x).1 < 65521 ∧ (sumStep s x).2 < 65521 := ⟨Nat.mod_lt _ (by omega), Nat.mod_lt _ (by omega)⟩
theorem sums_lt' : ∀ (b : Bytes) (s : Nat × Nat), s.1 < 65521 → s.2 < 65521 → (b.foldl sumStep s).1 < 65521 ∧ (b.foldl sumStep s).2 < 65521
  | [], s, h1, h2 => ⟨h1, h2⟩
  | x :: b, s, _, _ => sums_lt' b _ (sumStep_lt s x).1 (sumStep_lt s x).2
theorem sums_lt (b : Bytes) : (sums b).1 < 65521 ∧ (sums b).2 < 65521 := sums_lt' b _ (by decide) (by decide)
theorem sums_next {b : Bytes} {j : Nat} {x : UInt8} (h : b[j]? = some x) : sums (b.take (j + 1)) = sumStep (sums (b.take j)) x := by
  unfold sums
  rw [take_next h, List.foldl_append]; rfl
def adl (b : Bytes) : Nat := (sums b).2 * 65536 + (sums b).1
theorem adl_lt (b : Bytes) : adl b < 4294967296 := by
  have := sums_lt b
  unfold adl; omega
variable {S F G : Nat → Prop} {h0 h h1 : Heap} {L R L' : List A} {a b : Option Addr} {l c l2 c2 p t at_ : Nat} {bs cs : List UInt8} {vs : List Value}
/-! ### In the program -/
theorem four_spec (n : Nat) {F : Nat → Prop} (hv : Holds [A.vec 5 1 a l c vs] F h) (hb : l + 4 ≤ 140737488355328) :
    CallsH Tryd.prog 27 #[.slice a l c, .int .u32 n] h (fun v h' => ∃ a' c', v = .slice a' (l + 4) c' ∧ St F h h' [A.vec 5 1 a' (l + 4) c' (vs ++ bytesV (be4 n))]) := by
  refine vf27 _ _ _ _ h _ ?_
  unfold F27
  refine ⟨by omega, by omega, by omega, ?_⟩
  have k := St.start hv
  refine k.vnew fun b h1 k => ?_
  have e24 : (2 : Int) ^ (min (Int.toNat 24) (IntKind.bits .u32)) = 16777216 := rfl
  have e16 : (2 : Int) ^ (min (Int.toNat 16) (IntKind.bits .u32)) = 65536 := rfl
  have e8 : (2 : Int) ^ (min (Int.toNat 8) (IntKind.bits .u32)) = 256 := rfl
  rw [e24, e16, e8] at k
  have w : ∀ (m : Nat) (M : Int), (m : Int) = M → (.int .u8 (IntKind.u8.wrap (Int.fdiv (n : Int) M)) : Value) = byteV (UInt8.ofNat (n / m)) := fun m M hm => by
    rw [← hm, byteV_of, wrap_u8, Int.fdiv_eq_ediv_of_nonneg _ (by omega)]
    congr 1
  have w0 : (.int .u8 (IntKind.u8.wrap (n : Int)) : Value) = byteV (UInt8.ofNat n) := by rw [byteV_of, wrap_u8]
  rw [w 16777216 16777216 rfl, w 65536 65536 rfl, w 256 256 rfl, w0] at k
  have hsl : Sl h1 (some ⟨b, 0, none⟩) (bytesV (be4 n)) := k.slB (b := b)
  refine k.pull1.app T30 und30 (by simp) (Src.slice hsl rfl) (oneC_bytes _) (by omega) fun a' c' h' k => ⟨_, _, _, rfl, a', c', rfl, k.pull1.drop⟩
theorem or_nat (x y : Nat) (hx : x < 4294967296) (hy : y < 4294967296) : bitsOp .or .u32 (x : Int) (y : Int) = ((x ||| y : Nat) : Int) := by
  have e : ∀ z : Nat, z < 4294967296 → BitVec.ofInt 32 (z : Int) = BitVec.ofNat 32 z := fun z hz => by
    apply BitVec.eq_of_toNat_eq
    rw [BitVec.toNat_ofInt, BitVec.toNat_ofNat]; omega
  show IntKind.u32.wrap (((BitVec.ofInt 32 (x : Int)) ||| (BitVec.ofInt 32 (y : Int))).toNat : Int) = _
  have hlt := (BitVec.ofNat 32 x ||| BitVec.ofNat 32 y).isLt
  have e2 : (BitVec.ofNat 32 x ||| BitVec.ofNat 32 y).toNat = x ||| y := by
    rw [BitVec.toNat_or, BitVec.toNat_ofNat, BitVec.toNat_ofNat, Nat.mod_eq_of_lt hx, Nat.mod_eq_of_lt hy]
  rw [e _ hx, e _ hy, wrap_u32]
  rw [e2] at hlt ⊢
  omega
theorem or_add (x y k : Nat) (hy : y < 2 ^ k) : (x * 2 ^ k) ||| y = x * 2 ^ k + y := by
  rw [← Nat.shiftLeft_eq, Nat.shiftLeft_add_eq_or_of_lt hy]
theorem fourth_spec {b0 b1 b2 b3 : UInt8} {r : List UInt8} (hs : Sl h a (bytesV (b0 :: b1 :: b2 :: b3 :: r))) (hl : r.length + 4 = l) (hb : l < 9223372036854775808) : CallsH Tryd.prog 78 #[.slice a l c] h (fun v h' => v = .int .u32 (un4 b0 b1 b2 b3 : Nat) ∧ h' = h) := by
  refine vf78 _ _ _ h _ ?_
  unfold F78
  have hlen : (b0 :: b1 :: b2 :: b3 :: r).length = l := by simp only [List.length_cons]; omega
  refine hs.one hlen (by omega) (by omega) fun _ x0 e0 c0 => ⟨_, c0, by omega, ?_⟩
  refine hs.one hlen (by omega) (by omega) fun _ x1 e1 c1 => ⟨_, c1, by omega, ?_⟩
  refine hs.one hlen (by omega) (by omega) fun _ x2 e2 c2 => ⟨_, c2, by omega, ?_⟩
  refine hs.one hlen (by omega) (by omega) fun _ x3 e3 c3 => ⟨_, c3, ?_, rfl⟩
  cases e0; cases e1; cases e2; cases e3
  have h0 := b0.toNat_lt; have h1 := b1.toNat_lt; have h2 := b2.toNat_lt; have h3 := b3.toNat_lt
  have e24 : (2 : Int) ^ (min (Int.toNat 24) (IntKind.bits .u32)) = 16777216 := rfl
  have e16 : (2 : Int) ^ (min (Int.toNat 16) (IntKind.bits .u32)) = 65536 := rfl
  have e8 : (2 : Int) ^ (min (Int.toNat 8) (IntKind.bits .u32)) = 256 := rfl
  have s : ∀ (x : UInt8) (m : Nat) (M : Int), (m : Int) = M → m ≤ 16777216 → IntKind.u32.wrap (IntKind.u32.wrap (x.toNat : Int) * M) = ((x.toNat * m : Nat) : Int) := fun x m M hm hle => by
    have hx := x.toNat_lt
    subst hm
    have h5 : x.toNat * m ≤ 255 * 16777216 := Nat.mul_le_mul (by omega) hle
    have e1 : IntKind.u32.wrap (x.toNat : Int) = (x.toNat : Int) := by rw [wrap_u32]; omega
    rw [e1, ← Int.natCast_mul, wrap_u32]
    omega
  have s3 : IntKind.u32.wrap (b3.toNat : Int) = ((b3.toNat : Nat) : Int) := by rw [wrap_u32]; omega
  rw [e24, e16, e8, s b0 16777216 16777216 rfl (by omega), s b1 65536 65536 rfl (by omega), s b2 256 256 rfl (by omega), s3]
  have o1 := or_add b0.toNat (b1.toNat * 65536) 24 (by omega)
  have o2 := or_add (b0.toNat * 256 + b1.toNat) (b2.toNat * 256) 16 (by omega)
  have o3 := or_add (b0.toNat * 65536 + b1.toNat * 256 + b2.toNat) b3.toNat 8 (by omega)
  rw [show b0.toNat * 2 ^ 24 = b0.toNat * 16777216 by omega] at o1
  rw [show (b0.toNat * 256 + b1.toNat) * 2 ^ 16 = b0.toNat * 16777216 + b1.toNat * 65536 by omega] at o2
  rw [show (b0.toNat * 65536 + b1.toNat * 256 + b2.toNat) * 2 ^ 8 = b0.toNat * 16777216 + b1.toNat * 65536 + b2.toNat * 256 by omega] at o3
  rw [or_nat _ _ (by omega) (by omega), o1, or_nat _ _ (by omega) (by omega), o2, or_nat _ _ (by omega) (by omega), o3, un4_eq]
theorem sum_spec (hs : Sl h a (bytesV bs)) (hl : bs.length = l) (hb : l < 9223372036854775807) : CallsH Tryd.prog 54 #[.slice a l c] h (fun v h' => v = .int .u32 (adl bs : Nat) ∧ h' = h) := by
  refine vf54 _ _ _ h _ ?_
  unfold F54
  refine ⟨fun n hh p q i => ∃ j : Nat, i = j ∧ j ≤ l ∧ n = l - j ∧ p = ((sums (bs.take j)).1 : Int) ∧ q = ((sums (bs.take j)).2 : Int) ∧ hh = h, ⟨_, 0, rfl, by omega, rfl, rfl, rfl, rfl⟩, ?_⟩
  rintro n hh _ _ _ i ⟨j, rfl, hj, rfl, rfl, rfl, rfl⟩
  have hlt := sums_lt (bs.take j)
  refine cond_split (fun hc => ?_) (fun hc => ?_)
  · have hjl : j < l := Int.ofNat_lt.1 (of_decide_eq_true hc)
    refine hs.one (f := byteV) hl (by omega) (by omega) fun ad x hx hcx => ?_
    rw [Int.toNat_natCast] at hx
    have hx8 := x.toNat_lt
    have e1 : Int.tmod (IntKind.u32.wrap (((sums (bs.take j)).1 : Int) + IntKind.u32.wrap (x.toNat : Int))) 65521 = ((((sums (bs.take j)).1 + x.toNat) % 65521 : Nat) : Int) := by
      rw [wrap_u32, wrap_u32, Int.emod_eq_of_lt (by omega) (by omega), Int.emod_eq_of_lt (by omega) (by omega), ← Int.natCast_add]; rfl
    refine ⟨_, hcx, by omega, by omega, l - (j + 1), by omega, j + 1, wrap_nat hjl (by omega), hjl, rfl, ?_, ?_, rfl⟩
    · rw [e1, sums_next hx]; rfl
    · rw [e1, sums_next hx]
      have h3 : ((sums (bs.take j)).1 + x.toNat) % 65521 < 65521 := Nat.mod_lt _ (by omega)
      rw [wrap_u32, Int.emod_eq_of_lt (by omega) (by omega), ← Int.natCast_add]; rfl
  · have hjl : j = l := by
      have : ¬ (j : Int) < l := of_decide_eq_false hc
      omega
    subst hjl
    rw [List.take_of_length_le (by omega)] at hlt ⊢
    have e16 : (2 : Int) ^ (min (Int.toNat 16) (IntKind.bits .u32)) = ((65536 : Nat) : Int) := rfl
    have ew : IntKind.u32.wrap (((sums bs).2 : Int) * ((65536 : Nat) : Int)) = (((sums bs).2 * 65536 : Nat) : Int) := by
      rw [wrap_u32, ← Int.natCast_mul]; omega
    have o := or_add (sums bs).2 (sums bs).1 16 (by omega)
    refine ⟨by omega, ?_, rfl⟩
    rw [e16, ew, or_nat _ _ (by omega) (by omega)]
    unfold adl
    rw [← o]
end Go.Proofs.YtgdgebmlcgohhaaDoor.F
