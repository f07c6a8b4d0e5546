/- The log's sums: half a byte at a time is bit by bit. Conditions: none. -/
import Derived.Test.YtbaglaoefaoaoaaDoorN1
namespace Go.Proofs.YtbaglaoefaoaoaaDoor.F
open Go Go.VC
set_option linter.unusedSimpArgs false
set_option linter.unusedVariables false

abbrev Poly : BitVec 32 := 0xedb88320#32
def stepC (r : BitVec 32) : BitVec 32 := if r.getLsbD 0 = true then (r >>> 1) ^^^ Poly else r >>> 1
def crcB (r : BitVec 32) (b : UInt8) : BitVec 32 := stepC (stepC (stepC (stepC (stepC (stepC (stepC (stepC (r ^^^ b.toBitVec.setWidth 32))))))))
def crc (bs : List UInt8) : BitVec 32 := bs.foldl crcB 0xffffffff#32 ^^^ 0xffffffff#32
def halves : List (BitVec 32) := [0x00000000#32, 0x1db71064#32, 0x3b6e20c8#32, 0x26d930ac#32, 0x76dc4190#32, 0x6b6b51f4#32, 0x4db26158#32, 0x5005713c#32,
  0xedb88320#32, 0xf00f9344#32, 0xd6d6a3e8#32, 0xcb61b38c#32, 0x9b64c2b0#32, 0x86d3d2d4#32, 0xa00ae278#32, 0xbdbdf21c#32]
def maskC (b : Bool) : BitVec 32 := if b = true then Poly else 0#32
theorem stepC_mask (r : BitVec 32) : stepC r = (r >>> 1) ^^^ maskC (r.getLsbD 0) := by
  unfold stepC maskC
  cases r.getLsbD 0 <;> simp
theorem maskC_low (b : Bool) (i : Nat) (h : i < 5) : (maskC b).getLsbD i = false := by
  cases b
  · simp [maskC]
  · have : i = 0 ∨ i = 1 ∨ i = 2 ∨ i = 3 ∨ i = 4 := by omega
    rcases this with rfl | rfl | rfl | rfl | rfl <;> decide
theorem stepC_bit (r : BitVec 32) (i : Nat) (h : i < 5) : (stepC r).getLsbD i = r.getLsbD (i + 1) := by
  rw [stepC_mask, BitVec.getLsbD_xor, maskC_low _ _ h, BitVec.getLsbD_ushiftRight, Nat.add_comm]; simp
theorem four_steps (r : BitVec 32) : stepC (stepC (stepC (stepC r))) = (r >>> 4) ^^^ (maskC (r.getLsbD 0) >>> 3 ^^^ maskC (r.getLsbD 1) >>> 2 ^^^ maskC (r.getLsbD 2) >>> 1 ^^^ maskC (r.getLsbD 3)) := by
  have e1 := stepC_mask r
  have e2 := stepC_mask (stepC r)
  have e3 := stepC_mask (stepC (stepC r))
  have e4 := stepC_mask (stepC (stepC (stepC r)))
  rw [stepC_bit _ 0 (by omega)] at e2
  rw [stepC_bit _ 0 (by omega), stepC_bit _ 1 (by omega)] at e3
  rw [stepC_bit _ 0 (by omega), stepC_bit _ 1 (by omega), stepC_bit _ 2 (by omega)] at e4
  rw [e4, e3, e2, e1]
  simp only [BitVec.ushiftRight_xor_distrib, ← BitVec.shiftRight_add, BitVec.xor_assoc]
theorem nib (r : BitVec 32) : ∃ x, halves[(r &&& 15#32).toNat]? = some x ∧ (r >>> 4) ^^^ x = stepC (stepC (stepC (stepC r))) := by
  rw [four_steps]
  have hb : ∀ i, i < 4 → r.getLsbD i = (r &&& 15#32).getLsbD i := by
    intro i hi
    rw [BitVec.getLsbD_and]
    have : i = 0 ∨ i = 1 ∨ i = 2 ∨ i = 3 := by omega
    have hh : (15#32).getLsbD i = true := by rcases this with rfl | rfl | rfl | rfl <;> decide
    rw [hh]; simp
  rw [hb 0 (by omega), hb 1 (by omega), hb 2 (by omega), hb 3 (by omega)]
  have hlt : (r &&& 15#32).toNat < 16 := by
    rw [BitVec.toNat_and]; exact Nat.lt_of_le_of_lt Nat.and_le_right (by decide)
  generalize hn : r &&& 15#32 = n at *
  have hnn : n = BitVec.ofNat 32 n.toNat := by simp
  generalize n.toNat = m at *
  subst hnn
  have key : ∀ m, m < 16 → ∃ x, halves[m]? = some x ∧ x = (maskC ((BitVec.ofNat 32 m).getLsbD 0) >>> 3 ^^^ maskC ((BitVec.ofNat 32 m).getLsbD 1) >>> 2 ^^^ maskC ((BitVec.ofNat 32 m).getLsbD 2) >>> 1 ^^^ maskC ((BitVec.ofNat 32 m).getLsbD 3)) := by
    intro m hm
    have : m = 0 ∨ m = 1 ∨ m = 2 ∨ m = 3 ∨ m = 4 ∨ m = 5 ∨ m = 6 ∨ m = 7 ∨ m = 8 ∨ m = 9 ∨ m = 10 ∨ m = 11 ∨ m = 12 ∨ m = 13 ∨ m = 14 ∨ m = 15 := by omega
    rcases this with rfl | rfl | rfl | rfl | rfl | rfl | rfl | rfl | rfl | rfl | rfl | rfl | rfl | rfl | rfl | rfl <;> exact ⟨_, rfl, by decide⟩
  obtain ⟨x, h1, h2⟩ := key m hlt
  exact ⟨x, h1, by rw [h2]⟩
end Go.Proofs.YtbaglaoefaoaoaaDoor.F
