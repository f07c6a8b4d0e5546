/- Package log: sums and numbers of four bytes. Conditions: none. -/
import Derived.Test.YtbaglaoefaoaoaaDoorP1
import Derived.Test.YtbaglaoefaoaoaaDoorG
namespace Go.Proofs.YtbaglaoefaoaoaaDoor.F
open Go Go.VC Go.Proofs
set_option linter.unusedSimpArgs false
set_option linter.unusedVariables false
set_option maxRecDepth 100000
attribute [local irreducible] CallsH RunsTo PureTo

theorem und26 : Tryd.prog.underlying 26 = some (.slice 5) := by kernel_rfl
theorem und25 : Tryd.prog.underlying 25 = some (.slice 26) := by kernel_rfl
theorem und5 : Tryd.prog.underlying 5 = some (.int .u8) := by kernel_rfl
theorem und9 : Tryd.prog.underlying 9 = some .string := by kernel_rfl
theorem T26 : SlTy Tryd.prog 26 5 1 1 (.int .u8 0) := ⟨und26, by kernel_rfl, rfl, by omega, by omega⟩
theorem T25 : SlTy Tryd.prog 25 26 1 24 (.slice none 0 0) := ⟨und25, by kernel_rfl, rfl, by omega, by omega⟩
def u32V (x : BitVec 32) : Value := .int .u32 x.toNat
/-- The table lies there, and is not held. -/
abbrev Tab (F : Nat → Prop) (h : Heap) : Prop := Ro F h (some ⟨0, 0, none⟩) (halves.map u32V)
variable {h : Heap} {a : Option Addr} {l c : Nat} {bs : List UInt8}

/-! ### Sums -/
theorem sum_spec {F : Nat → Prop} (hT : Tab F h) (hs : Sl h a (bytesV bs)) (hl : bs.length = l) (hb : l < 9223372036854775807) : CallsH Tryd.prog 56 #[.slice a l c] h (fun v h' => v = u32V (crc bs) ∧ h' = h) := by
  refine vf56 _ _ _ h _ ?_
  unfold F56
  refine ⟨fun n hh r y => ∃ j : Nat, y = j ∧ j ≤ l ∧ n = l - j ∧ hh = h ∧ r = (((bs.take j).foldl crcB 0xffffffff#32).toNat : Int), ⟨_, 0, rfl, by omega, rfl, rfl, rfl⟩, ?_⟩
  rintro n hh _ r y ⟨j, rfl, hj, rfl, rfl, rfl⟩
  refine cond_split (fun hc => ?_) (fun hc => ?_)
  · have hjl : j < l := Int.ofNat_lt.1 (of_decide_eq_true hc)
    refine hs.one hl (by omega) (by omega) fun ad b hb1 hcell => ⟨_, hcell, by omega, ?_⟩
    rw [Int.toNat_natCast] at hb1
    have hj1 : (bs.take (j + 1)).foldl crcB 0xffffffff#32 = crcB ((bs.take j).foldl crcB 0xffffffff#32) b := by rw [List.take_add_one, hb1, List.foldl_append]; rfl
    generalize (bs.take j).foldl crcB 0xffffffff#32 = r at *
    have e15 : (15 : Int) = ((15#32).toNat : Int) := rfl
    have e1 : bitsOp .xor .u32 (r.toNat : Int) (IntKind.u32.wrap (b.toNat : Int)) = ((r ^^^ b.toBitVec.setWidth 32).toNat : Int) := by rw [ext32, xor32]
    have e4 : (min (Int.toNat 4) (IntKind.bits .u32)) = 4 := rfl
    rw [e1, e15, and32, e4, shr32]
    obtain ⟨x, hx, ex⟩ := nib (r ^^^ b.toBitVec.setWidth 32)
    have hlt : ∀ z : BitVec 32, (z &&& 15#32).toNat < 16 := fun z => by rw [BitVec.toNat_and]; exact Nat.lt_of_le_of_lt Nat.and_le_right (by decide)
    refine hT.sl.one rfl (by omega) (by have := hlt (r ^^^ b.toBitVec.setWidth 32); omega) fun ad1 x1 hx1 hc1 => ⟨_, hc1, by omega, ?_⟩
    rw [Int.toNat_natCast, hx] at hx1
    cases hx1
    rw [xor32, and32, ex, shr32]
    obtain ⟨y, hy, ey⟩ := nib (stepC (stepC (stepC (stepC (r ^^^ b.toBitVec.setWidth 32)))))
    refine hT.sl.one rfl (by omega) (by have := hlt (stepC (stepC (stepC (stepC (r ^^^ b.toBitVec.setWidth 32))))); omega) fun ad2 x2 hx2 hc2 => ⟨_, hc2, ?_⟩
    rw [Int.toNat_natCast, hy] at hx2
    cases hx2
    rw [xor32, ey]
    refine ⟨_, ?_, j + 1, wrap_nat hjl (by omega), hjl, rfl, rfl, ?_⟩
    · omega
    · rw [hj1]; rfl
  · have hjl : j = l := by
      have : ¬ (j : Int) < l := of_decide_eq_false hc
      omega
    subst hjl
    refine ⟨?_, rfl⟩
    rw [List.take_of_length_le (by omega)]
    have e : (4294967295 : Int) = ((0xffffffff#32).toNat : Int) := rfl
    rw [e, xor32, BitVec.xor_comm]; rfl
theorem rsum_spec (hs : Sl h a (bytesV bs)) (hl : bs.length = l) (hb : l < 9223372036854775807) : CallsH Tryd.prog 61 #[.slice a l c] h (fun v h' => v = u32V (crc bs) ∧ h' = h) := by
  refine vf61 _ _ _ h _ ?_
  unfold F61
  refine ⟨fun n hh r y => ∃ j : Nat, y = j ∧ j ≤ l ∧ n = l - j ∧ hh = h ∧ r = (((bs.take j).foldl crcB 0xffffffff#32).toNat : Int), ⟨_, 0, rfl, by omega, rfl, rfl, rfl⟩, ?_⟩
  rintro n hh _ r y ⟨j, rfl, hj, rfl, rfl, rfl⟩
  refine cond_split (fun hc => ?_) (fun hc => ?_)
  · have hjl : j < l := Int.ofNat_lt.1 (of_decide_eq_true hc)
    refine hs.one hl (by omega) (by omega) fun ad b hb1 hcell => ⟨_, hcell, ?_⟩
    rw [Int.toNat_natCast] at hb1
    have hj1 : (bs.take (j + 1)).foldl crcB 0xffffffff#32 = crcB ((bs.take j).foldl crcB 0xffffffff#32) b := by rw [List.take_add_one, hb1, List.foldl_append]; rfl
    generalize (bs.take j).foldl crcB 0xffffffff#32 = r at *
    have e1 : bitsOp .xor .u32 (r.toNat : Int) (IntKind.u32.wrap (b.toNat : Int)) = ((r ^^^ b.toBitVec.setWidth 32).toNat : Int) := by rw [ext32, xor32]
    rw [e1]
    have hstep : ∀ i z, Nat.repeat stepC (i + 1) z = stepC (Nat.repeat stepC i z) := fun _ _ => rfl
    refine ⟨fun n h' z k => ∃ i : Nat, k = i ∧ i ≤ 8 ∧ n = 8 - i ∧ h' = hh ∧ z = ((Nat.repeat stepC i (r ^^^ b.toBitVec.setWidth 32)).toNat : Int), ⟨_, 0, rfl, by omega, rfl, rfl, rfl⟩, ?_⟩
    rintro n hh _ z k ⟨i, rfl, hi, rfl, rfl, rfl⟩
    refine cond_split (fun hd => ?_) (fun hd => ?_)
    · have hi8 : i < 8 := by
        have : (i : Int) < 8 := of_decide_eq_true hd
        omega
      have hs1 := hstep i (r ^^^ b.toBitVec.setWidth 32)
      generalize Nat.repeat stepC i (r ^^^ b.toBitVec.setWidth 32) = z at *
      have hz := z.isLt
      have ediv : IntKind.u32.wrap (Int.tdiv (z.toNat : Int) 2) = ((z >>> 1).toNat : Int) := by
        rw [wrap_u32, BitVec.toNat_ushiftRight, Nat.shiftRight_eq_div_pow, Int.tdiv_eq_ediv_of_nonneg (by omega)]; omega
      have emod : (Int.tmod (z.toNat : Int) 2 == 1) = z.getLsbD 0 := by
        rw [Int.tmod_eq_emod_of_nonneg (by omega)]
        show _ = z.toNat.testBit 0
        rw [Nat.testBit_zero]
        rcases Nat.mod_two_eq_zero_or_one z.toNat with e | e
        · rw [show (z.toNat : Int) % 2 = 0 by omega, e]; rfl
        · rw [show (z.toNat : Int) % 2 = 1 by omega, e]; rfl
      refine ⟨fun h' y => h' = hh ∧ y = ((stepC z).toNat : Int), ⟨by omega, ?_⟩, ?_⟩
      · rw [emod, ediv]
        have ep : (3988292384 : Int) = ((Poly).toNat : Int) := rfl
        rw [ep, xor32]
        unfold stepC
        cases z.getLsbD 0
        · exact ⟨by omega, rfl, by simp⟩
        · exact ⟨by omega, rfl, by simp⟩
      · rintro _ _ _ ⟨rfl, rfl⟩
        exact ⟨_, by omega, i + 1, wrap_nat hi8 (by omega), by omega, rfl, rfl, by rw [hs1]⟩
    · have hi8 : i = 8 := by
        have : ¬ (i : Int) < 8 := of_decide_eq_false hd
        omega
      subst hi8
      exact ⟨_, by omega, j + 1, wrap_nat hjl (by omega), hjl, rfl, rfl, by rw [hj1]; rfl⟩
  · have hjl : j = l := by
      have : ¬ (j : Int) < l := of_decide_eq_false hc
      omega
    subst hjl
    refine ⟨?_, rfl⟩
    rw [List.take_of_length_le (by omega)]
    have e : (4294967295 : Int) = ((0xffffffff#32).toNat : Int) := rfl
    rw [e, xor32]; rfl

/-! ### Numbers of four bytes -/
def be32 (n : BitVec 32) : List UInt8 := [UInt8.ofNat (n.toNat / 16777216), UInt8.ofNat (n.toNat / 65536), UInt8.ofNat (n.toNat / 256), UInt8.ofNat n.toNat]
def un32' (b0 b1 b2 b3 : UInt8) : BitVec 32 := BitVec.ofNat 32 (b0.toNat * 16777216 + b1.toNat * 65536 + b2.toNat * 256 + b3.toNat)
theorem un32_ex : ∃ f, f = un32' := ⟨_, rfl⟩
/-- The number of four bytes (told by choice: the kernel is not to unfold it). -/
noncomputable def un32 : UInt8 → UInt8 → UInt8 → UInt8 → BitVec 32 := Classical.choose un32_ex
theorem un32_eq (b0 b1 b2 b3 : UInt8) : un32 b0 b1 b2 b3 = BitVec.ofNat 32 (b0.toNat * 16777216 + b1.toNat * 65536 + b2.toNat * 256 + b3.toNat) := by
  have : un32 = un32' := Classical.choose_spec un32_ex
  rw [this]; rfl
theorem un32_be (n : BitVec 32) : un32 (UInt8.ofNat (n.toNat / 16777216)) (UInt8.ofNat (n.toNat / 65536)) (UInt8.ofNat (n.toNat / 256)) (UInt8.ofNat n.toNat) = n := by
  have := n.isLt
  apply BitVec.eq_of_toNat_eq
  simp only [un32_eq, BitVec.toNat_ofNat, UInt8.toNat_ofNat']
  omega
theorem be32_un (b0 b1 b2 b3 : UInt8) : be32 (un32 b0 b1 b2 b3) = [b0, b1, b2, b3] := by
  have h0 := b0.toNat_lt; have h1 := b1.toNat_lt; have h2 := b2.toNat_lt; have h3 := b3.toNat_lt
  simp only [be32, un32_eq, BitVec.toNat_ofNat]
  have e : ∀ (m : Nat) (b : UInt8), m % 256 = b.toNat → UInt8.ofNat m = b := fun m b hm => by
    apply UInt8.toNat_inj.1; rw [UInt8.toNat_ofNat']; exact hm
  rw [e _ b0 (by omega), e _ b1 (by omega), e _ b2 (by omega), e _ b3 (by omega)]
theorem byteV_of (m : Nat) : byteV (UInt8.ofNat m) = .int .u8 ((m : Int) % 256) := by
  simp only [byteV, UInt8.toNat_ofNat']
  congr 1
theorem four_spec (n : BitVec 32) {F : Nat → Prop} {vs : List Value} (hv : Holds [A.vec 5 1 a l c vs] F h) (hb : l + 4 ≤ 140737488355328) :
    CallsH Tryd.prog 66 #[.slice a l c, u32V n] h (fun v h' => ∃ a' c', v = .slice a' (l + 4) c' ∧ St F h h' [A.vec 5 1 a' (l + 4) c' (vs ++ bytesV (be32 n))]) := by
  refine vf66 _ _ _ _ h _ ?_
  unfold F66
  refine ⟨by omega, by omega, by omega, ?_⟩
  have k := St.start hv
  refine k.vnew fun b h1 k => ?_
  have e24 : (min (Int.toNat 24) (IntKind.bits .u32)) = 24 := rfl
  have e16 : (min (Int.toNat 16) (IntKind.bits .u32)) = 16 := rfl
  have e8 : (min (Int.toNat 8) (IntKind.bits .u32)) = 8 := rfl
  have eb : (#[Value.int .u8 (IntKind.u8.wrap (Int.fdiv (n.toNat : Int) (2 ^ (min (Int.toNat 24) (IntKind.bits .u32))))), .int .u8 (IntKind.u8.wrap (Int.fdiv (n.toNat : Int) (2 ^ (min (Int.toNat 16) (IntKind.bits .u32))))), .int .u8 (IntKind.u8.wrap (Int.fdiv (n.toNat : Int) (2 ^ (min (Int.toNat 8) (IntKind.bits .u32))))), .int .u8 (IntKind.u8.wrap (n.toNat : Int))] : Array Value) = (bytesV (be32 n)).toArray := by
    rw [e24, e16, e8, shr32, shr32, shr32]
    simp only [BitVec.toNat_ushiftRight, Nat.shiftRight_eq_div_pow, wrap_u8, be32, bytesV, List.map_cons, List.map_nil, byteV_of]
  rw [eb] at k
  have hsl : Sl h1 (some ⟨b, 0, none⟩) (bytesV (be32 n)) := (St.blk (b := b) k).sl 0 fun j v hj => by rw [Nat.zero_add]; simpa using hj
  refine k.pull1.app T26 und26 (by simp) (Src.slice hsl rfl) (oneC_bytes _) (by omega) fun a' c' h' k => ⟨_, _, _, rfl, a', c', rfl, k.pull1.drop⟩
theorem rfour_spec (n : BitVec 32) : CallsH Tryd.prog 64 #[u32V n] h (fun v h' => ∃ a', v = .slice a' 4 4 ∧ St none_ h h' [A.vec 5 1 a' 4 4 (bytesV (be32 n))]) := by
  refine vf64 _ h _ ?_
  unfold F64
  refine ⟨by omega, by omega, by omega, by omega, by omega, by omega, ?_⟩
  have k := St.fresh h
  refine k.vnew fun b h1 k => ?_
  have hn := n.isLt
  have eb : (#[Value.int .u8 (IntKind.u8.wrap (IntKind.u32.wrap (Int.tdiv (n.toNat : Int) 16777216))), .int .u8 (IntKind.u8.wrap (Int.tmod (IntKind.u32.wrap (Int.tdiv (n.toNat : Int) 65536)) 256)), .int .u8 (IntKind.u8.wrap (Int.tmod (IntKind.u32.wrap (Int.tdiv (n.toNat : Int) 256)) 256)), .int .u8 (IntKind.u8.wrap (Int.tmod (n.toNat : Int) 256))] : Array Value) = (bytesV (be32 n)).toArray := by
    have d : ∀ m : Int, 0 < m → Int.tdiv (n.toNat : Int) m = (n.toNat : Int) / m := fun m _ => Int.tdiv_eq_ediv_of_nonneg (by omega)
    rw [d _ (by omega), d _ (by omega), d _ (by omega)]
    simp only [wrap_u32, be32, bytesV, List.map_cons, List.map_nil, byteV_of, wrap_u8]
    rw [Int.tmod_eq_emod_of_nonneg (by omega), Int.tmod_eq_emod_of_nonneg (by omega), Int.tmod_eq_emod_of_nonneg (by omega)]
    have a0 : (n.toNat : Int) / 16777216 % 4294967296 % 256 = ((n.toNat / 16777216 : Nat) : Int) % 256 := by omega
    have a1 : (n.toNat : Int) / 65536 % 4294967296 % 256 % 256 = ((n.toNat / 65536 : Nat) : Int) % 256 := by omega
    have a2 : (n.toNat : Int) / 256 % 4294967296 % 256 % 256 = ((n.toNat / 256 : Nat) : Int) % 256 := by omega
    have a3 : (n.toNat : Int) % 256 % 256 = (n.toNat : Int) % 256 := by omega
    rw [a0, a1, a2, a3]
  rw [eb] at k
  have k := k.blkvec (sz := 1) (n := 4) rfl (by omega) (by omega)
  exact ⟨_, rfl, by simpa using k⟩
theorem fourth_spec {b0 b1 b2 b3 : UInt8} {r : List UInt8} (hs : Sl h a (bytesV (b0 :: b1 :: b2 :: b3 :: r))) (hl : r.length + 4 = l) (hb : l < 9223372036854775808) : CallsH Tryd.prog 65 #[.slice a l c] h (fun v h' => v = u32V (un32 b0 b1 b2 b3) ∧ h' = h) := by
  refine vf65 _ _ _ h _ ?_
  unfold F65
  have hlen : (b0 :: b1 :: b2 :: b3 :: r).length = l := by simp only [List.length_cons]; omega
  refine hs.one hlen (by omega) (by omega) fun _ x0 e0 c0 => ⟨_, c0, by omega, ?_⟩
  refine hs.one hlen (by omega) (by omega) fun _ x1 e1 c1 => ⟨_, c1, by omega, ?_⟩
  refine hs.one hlen (by omega) (by omega) fun _ x2 e2 c2 => ⟨_, c2, by omega, ?_⟩
  refine hs.one hlen (by omega) (by omega) fun _ x3 e3 c3 => ⟨_, c3, ?_, rfl⟩
  cases e0; cases e1; cases e2; cases e3
  have h0 := b0.toNat_lt; have h1 := b1.toNat_lt; have h2 := b2.toNat_lt; have h3 := b3.toNat_lt
  have e24 : (min (Int.toNat 24) (IntKind.bits .u32)) = 24 := rfl
  have e16 : (min (Int.toNat 16) (IntKind.bits .u32)) = 16 := rfl
  have e8 : (min (Int.toNat 8) (IntKind.bits .u32)) = 8 := rfl
  have w : ∀ n : Nat, n < 4294967296 → IntKind.u32.wrap (n : Int) = ((BitVec.ofNat 32 n).toNat : Int) := fun n hn => by
    rw [wrap_u32, BitVec.toNat_ofNat]; omega
  have s0 : IntKind.u32.wrap (IntKind.u32.wrap (b0.toNat : Int) * 2 ^ 24) = ((BitVec.ofNat 32 (b0.toNat * 16777216)).toNat : Int) := by
    rw [← w _ (by omega)]; simp only [wrap_u32]; omega
  have s1 : IntKind.u32.wrap (IntKind.u32.wrap (b1.toNat : Int) * 2 ^ 16) = ((BitVec.ofNat 32 (b1.toNat * 65536)).toNat : Int) := by
    rw [← w _ (by omega)]; simp only [wrap_u32]; omega
  have s2 : IntKind.u32.wrap (IntKind.u32.wrap (b2.toNat : Int) * 2 ^ 8) = ((BitVec.ofNat 32 (b2.toNat * 256)).toNat : Int) := by
    rw [← w _ (by omega)]; simp only [wrap_u32]; omega
  rw [e24, e16, e8, s0, s1, s2, w _ (by omega), or32, or32, or32]
  unfold u32V
  congr 2
  have o : ∀ (x y k : Nat), y < 2 ^ k → x * 2 ^ k + y < 4294967296 → (BitVec.ofNat 32 (x * 2 ^ k)) ||| (BitVec.ofNat 32 y) = BitVec.ofNat 32 (x * 2 ^ k + y) := fun x y k hy hlt => by
    apply BitVec.eq_of_toNat_eq
    have hx : x * 2 ^ k < 4294967296 := by omega
    have hy' : y < 4294967296 := by omega
    rw [BitVec.toNat_or, BitVec.toNat_ofNat, BitVec.toNat_ofNat, BitVec.toNat_ofNat, Nat.mod_eq_of_lt hx, Nat.mod_eq_of_lt hy', Nat.mod_eq_of_lt hlt, ← Nat.shiftLeft_eq, Nat.shiftLeft_add_eq_or_of_lt hy]
  have o1 := o b0.toNat (b1.toNat * 65536) 24 (by omega) (by omega)
  have o2 := o (b0.toNat * 256 + b1.toNat) (b2.toNat * 256) 16 (by omega) (by omega)
  have o3 := o (b0.toNat * 65536 + b1.toNat * 256 + b2.toNat) b3.toNat 8 (by omega) (by omega)
  rw [show b0.toNat * 2 ^ 24 = b0.toNat * 16777216 by omega] at o1
  rw [show (b0.toNat * 256 + b1.toNat) * 2 ^ 16 = b0.toNat * 16777216 + b1.toNat * 65536 by omega] at o2
  rw [show (b0.toNat * 65536 + b1.toNat * 256 + b2.toNat) * 2 ^ 8 = b0.toNat * 16777216 + b1.toNat * 65536 + b2.toNat * 256 by omega] at o3
  rw [o1, o2, o3, un32_eq]
theorem number_spec {b0 b1 b2 b3 : UInt8} {r : List UInt8} (hs : Sl h a (bytesV (b0 :: b1 :: b2 :: b3 :: r))) (hl : r.length + 4 = l) (hb : l < 9223372036854775808) : CallsH Tryd.prog 55 #[.slice a l c] h (fun v h' => v = u32V (un32 b0 b1 b2 b3) ∧ h' = h) := by
  refine vf55 _ _ _ h _ ?_
  unfold F55
  refine CallsH.mono (fourth_spec hs hl hb) ?_
  rintro _ _ ⟨rfl, rfl⟩
  exact ⟨_, rfl, rfl, rfl⟩
theorem of_spec {b0 b1 b2 b3 : UInt8} {r : List UInt8} (p : Nat) (hs : Sl h a (bytesV bs)) (hl : bs.length = l) (hp : bs.drop p = b0 :: b1 :: b2 :: b3 :: r) (hb : l < 9223372036854775808) : CallsH Tryd.prog 60 #[.slice a l c, .int .i64 p] h (fun v h' => v = u32V (un32 b0 b1 b2 b3) ∧ h' = h) := by
  refine vf60 _ _ _ _ h _ ?_
  unfold F60
  have hpl : p + 4 ≤ l := by
    have := congrArg List.length hp
    simp only [List.length_drop, List.length_cons] at this; omega
  have hget : ∀ i x, (b0 :: b1 :: b2 :: b3 :: r)[i]? = some x → bs[p + i]? = some x := fun i x hx => by
    rw [← hp, List.getElem?_drop] at hx; exact hx
  have h0 := b0.toNat_lt; have h1 := b1.toNat_lt; have h2 := b2.toNat_lt; have h3 := b3.toNat_lt
  let g : Nat → Nat := fun i => match i with | 0 => 0 | 1 => b0.toNat | 2 => b0.toNat * 256 + b1.toNat | 3 => b0.toNat * 65536 + b1.toNat * 256 + b2.toNat | _ => b0.toNat * 16777216 + b1.toNat * 65536 + b2.toNat * 256 + b3.toNat
  refine ⟨fun n hh r y => ∃ j : Nat, y = j ∧ j ≤ 4 ∧ n = 4 - j ∧ hh = h ∧ r = (g j : Int), ⟨_, 0, rfl, by omega, rfl, rfl, rfl⟩, ?_⟩
  rintro n hh _ r' y ⟨j, rfl, hj, rfl, rfl, rfl⟩
  refine cond_split (fun hc => ?_) (fun hc => ?_)
  · have hj4 : j < 4 := by
      have : (j : Int) < 4 := of_decide_eq_true hc
      omega
    have ew : IntKind.i64.wrap ((p : Int) + (j : Int)) = ((p + j : Nat) : Int) := by
      rw [wrap_id (by omega) (by omega)]; omega
    rw [ew]
    refine hs.one hl (by omega) (by omega) fun ad x hx hcell => ⟨_, hcell, _, ?_, j + 1, wrap_nat hj4 (by omega), by omega, rfl, rfl, ?_⟩
    · omega
    · rw [Int.toNat_natCast] at hx
      simp only [wrap_u32]
      have : j = 0 ∨ j = 1 ∨ j = 2 ∨ j = 3 := by omega
      rcases this with rfl | rfl | rfl | rfl
      · have := (hget 0 _ rfl).symm.trans hx
        cases this
        show _ = ((b0.toNat : Nat) : Int)
        show (((0 : Nat) : Int) * 256 % 4294967296 + (b0.toNat : Int) % 4294967296) % 4294967296 = _
        omega
      · have := (hget 1 _ rfl).symm.trans hx
        cases this
        show ((b0.toNat : Int) * 256 % 4294967296 + (b1.toNat : Int) % 4294967296) % 4294967296 = ((b0.toNat * 256 + b1.toNat : Nat) : Int)
        omega
      · have := (hget 2 _ rfl).symm.trans hx
        cases this
        show (((b0.toNat * 256 + b1.toNat : Nat) : Int) * 256 % 4294967296 + (b2.toNat : Int) % 4294967296) % 4294967296 = ((b0.toNat * 65536 + b1.toNat * 256 + b2.toNat : Nat) : Int)
        omega
      · have := (hget 3 _ rfl).symm.trans hx
        cases this
        show (((b0.toNat * 65536 + b1.toNat * 256 + b2.toNat : Nat) : Int) * 256 % 4294967296 + (b3.toNat : Int) % 4294967296) % 4294967296 = ((b0.toNat * 16777216 + b1.toNat * 65536 + b2.toNat * 256 + b3.toNat : Nat) : Int)
        omega
  · have hj4 : j = 4 := by
      have : ¬ (j : Int) < 4 := of_decide_eq_false hc
      omega
    subst hj4
    refine ⟨?_, rfl⟩
    unfold u32V
    rw [un32_eq, BitVec.toNat_ofNat]
    show Value.int .u32 ((b0.toNat * 16777216 + b1.toNat * 65536 + b2.toNat * 256 + b3.toNat : Nat) : Int) = _
    rw [Nat.mod_eq_of_lt (by omega)]
end Go.Proofs.YtbaglaoefaoaoaaDoor.F
