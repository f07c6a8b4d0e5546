/- Package proto in plain Lean; frames; the reader's single steps. Conditions: none. -/
import Derived.Test.YtgdgebmlcgohhaaGreatDoorZ1
import Derived.Test.YtgdgebmlcgohhaaGreatDoorS4
/-! ## Package proto: numbers of four bytes, the sum. -/
namespace Go.Proofs.YtgdgebmlcgohhaaGreatDoor.F
open Go Go.VC Go.Proofs
set_option linter.unusedSimpArgs false
set_option linter.unusedVariables false
set_option maxRecDepth 100000
attribute [local irreducible] CallsH RunsTo PureTo

/-! ### In plain Lean -/
def be4 (n : Nat) : Bytes := [UInt8.ofNat (n / 16777216), UInt8.ofNat (n / 65536), UInt8.ofNat (n / 256), UInt8.ofNat n]
theorem be4_len (n : Nat) : (be4 n).length = 4 := rfl
def un4' (b0 b1 b2 b3 : UInt8) : Nat := b0.toNat * 16777216 + b1.toNat * 65536 + b2.toNat * 256 + b3.toNat
theorem un4_ex : ∃ f : UInt8 → UInt8 → UInt8 → UInt8 → Nat, f = un4' := ⟨_, rfl⟩
noncomputable def un4 : UInt8 → UInt8 → UInt8 → UInt8 → Nat := Classical.choose un4_ex
theorem un4_eq (b0 b1 b2 b3 : UInt8) : un4 b0 b1 b2 b3 = b0.toNat * 16777216 + b1.toNat * 65536 + b2.toNat * 256 + b3.toNat := by
  have : un4 = un4' := Classical.choose_spec un4_ex
  rw [this]; rfl
theorem un4_lt (b0 b1 b2 b3 : UInt8) : un4 b0 b1 b2 b3 < 4294967296 := by
  have h0 := b0.toNat_lt; have h1 := b1.toNat_lt; have h2 := b2.toNat_lt; have h3 := b3.toNat_lt
  rw [un4_eq]; omega
theorem un4_be {n : Nat} (h : n < 4294967296) : un4 (UInt8.ofNat (n / 16777216)) (UInt8.ofNat (n / 65536)) (UInt8.ofNat (n / 256)) (UInt8.ofNat n) = n := by
  simp only [un4_eq, UInt8.toNat_ofNat']
  omega
theorem be4_un (b0 b1 b2 b3 : UInt8) : be4 (un4 b0 b1 b2 b3) = [b0, b1, b2, b3] := by
  have h0 := b0.toNat_lt; have h1 := b1.toNat_lt; have h2 := b2.toNat_lt; have h3 := b3.toNat_lt
  simp only [be4, un4_eq]
  have e : ∀ (m : Nat) (b : UInt8), m % 256 = b.toNat → UInt8.ofNat m = b := fun m b hm => by
    apply UInt8.toNat_inj.1; rw [UInt8.toNat_ofNat']; exact hm
  rw [e _ b0 (by omega), e _ b1 (by omega), e _ b2 (by omega), e _ b3 (by omega)]
def sumStep (s : Nat × Nat) (x : UInt8) : Nat × Nat := ((s.1 + x.toNat) % 65521, (s.2 + (s.1 + x.toNat) % 65521) % 65521)
def sums (b : Bytes) : Nat × Nat := b.foldl sumStep (1, 0)
theorem sumStep_lt (s : Nat × Nat) (x : UInt8) : (sumStep s x).1 < 65521 ∧ (sumStep s x).2 < 65521 := ⟨Nat.mod_lt _ (by omega), Nat.mod_lt _ (by omega)⟩
theorem sums_lt' : ∀ (b : Bytes) (s : Nat × Nat), s.1 < 65521 → s.2 < 65521 → (b.foldl sumStep s).1 < 65521 ∧ (b.foldl sumStep s).2 < 65521
  | [], s, h1, h2 => ⟨h1, h2⟩
  | x :: b, s, _, _ => sums_lt' b _ (sumStep_lt s x).1 (sumStep_lt s x).2
theorem sums_lt (b : Bytes) : (sums b).1 < 65521 ∧ (sums b).2 < 65521 := sums_lt' b _ (by decide) (by decide)
theorem sums_next {b : Bytes} {j : Nat} {x : UInt8} (h : b[j]? = some x) : sums (b.take (j + 1)) = sumStep (sums (b.take j)) x := by
  unfold sums
  rw [take_next h, List.foldl_append]; rfl
def adl (b : Bytes) : Nat := (sums b).2 * 65536 + (sums b).1
theorem adl_lt (b : Bytes) : adl b < 4294967296 := by
  have := sums_lt b
  unfold adl; omega
variable {S F G : Nat → Prop} {h0 h h1 : Heap} {L R L' : List A} {a b : Option Addr} {l c l2 c2 p t at_ : Nat} {bs cs : List UInt8} {vs : List Value}
/-! ### In the program -/
theorem four_spec (n : Nat) {F : Nat → Prop} (hv : Holds [A.vec 5 1 a l c vs] F h) (hb : l + 4 ≤ 140737488355328) :
    CallsH Tryz.prog 63 #[.slice a l c, .int .u32 n] h (fun v h' => ∃ a' c', v = .slice a' (l + 4) c' ∧ St F h h' [A.vec 5 1 a' (l + 4) c' (vs ++ bytesV (be4 n))]) := by
  refine vf63 _ _ _ _ h _ ?_
  unfold F63
  refine ⟨by omega, by omega, by omega, ?_⟩
  have k := St.start hv
  refine k.vnew fun b h1 k => ?_
  have e24 : (2 : Int) ^ (min (Int.toNat 24) (IntKind.bits .u32)) = 16777216 := rfl
  have e16 : (2 : Int) ^ (min (Int.toNat 16) (IntKind.bits .u32)) = 65536 := rfl
  have e8 : (2 : Int) ^ (min (Int.toNat 8) (IntKind.bits .u32)) = 256 := rfl
  rw [e24, e16, e8] at k
  have w : ∀ (m : Nat) (M : Int), (m : Int) = M → (.int .u8 (IntKind.u8.wrap (Int.fdiv (n : Int) M)) : Value) = byteV (UInt8.ofNat (n / m)) := fun m M hm => by
    rw [← hm, byteV_of, wrap_u8, Int.fdiv_eq_ediv_of_nonneg _ (by omega)]
    congr 1
  have w0 : (.int .u8 (IntKind.u8.wrap (n : Int)) : Value) = byteV (UInt8.ofNat n) := by rw [byteV_of, wrap_u8]
  rw [w 16777216 16777216 rfl, w 65536 65536 rfl, w 256 256 rfl, w0] at k
  have hsl : Sl h1 (some ⟨b, 0, none⟩) (bytesV (be4 n)) := k.slB (b := b)
  refine k.pull1.app T30 und30 (by simp) (Src.slice hsl rfl) (oneC_bytes _) (by omega) fun a' c' h' k => ⟨_, _, _, rfl, a', c', rfl, k.pull1.drop⟩
theorem or_nat (x y : Nat) (hx : x < 4294967296) (hy : y < 4294967296) : bitsOp .or .u32 (x : Int) (y : Int) = ((x ||| y : Nat) : Int) := by
  have e : ∀ z : Nat, z < 4294967296 → BitVec.ofInt 32 (z : Int) = BitVec.ofNat 32 z := fun z hz => by
    apply BitVec.eq_of_toNat_eq
    rw [BitVec.toNat_ofInt, BitVec.toNat_ofNat]; omega
  show IntKind.u32.wrap (((BitVec.ofInt 32 (x : Int)) ||| (BitVec.ofInt 32 (y : Int))).toNat : Int) = _
  have hlt := (BitVec.ofNat 32 x ||| BitVec.ofNat 32 y).isLt
  have e2 : (BitVec.ofNat 32 x ||| BitVec.ofNat 32 y).toNat = x ||| y := by
    rw [BitVec.toNat_or, BitVec.toNat_ofNat, BitVec.toNat_ofNat, Nat.mod_eq_of_lt hx, Nat.mod_eq_of_lt hy]
  rw [e _ hx, e _ hy, wrap_u32]
  rw [e2] at hlt ⊢
  omega
theorem or_add (x y k : Nat) (hy : y < 2 ^ k) : (x * 2 ^ k) ||| y = x * 2 ^ k + y := by
  rw [← Nat.shiftLeft_eq, Nat.shiftLeft_add_eq_or_of_lt hy]
theorem fourth_spec {b0 b1 b2 b3 : UInt8} {r : List UInt8} (hs : Sl h a (bytesV (b0 :: b1 :: b2 :: b3 :: r))) (hl : r.length + 4 = l) (hb : l < 9223372036854775808) : CallsH Tryz.prog 97 #[.slice a l c] h (fun v h' => v = .int .u32 (un4 b0 b1 b2 b3 : Nat) ∧ h' = h) := by
  refine vf97 _ _ _ h _ ?_
  unfold F97
  have hlen : (b0 :: b1 :: b2 :: b3 :: r).length = l := by simp only [List.length_cons]; omega
  refine hs.one hlen (by omega) (by omega) fun _ x0 e0 c0 => ⟨_, c0, by omega, ?_⟩
  refine hs.one hlen (by omega) (by omega) fun _ x1 e1 c1 => ⟨_, c1, by omega, ?_⟩
  refine hs.one hlen (by omega) (by omega) fun _ x2 e2 c2 => ⟨_, c2, by omega, ?_⟩
  refine hs.one hlen (by omega) (by omega) fun _ x3 e3 c3 => ⟨_, c3, ?_, rfl⟩
  cases e0; cases e1; cases e2; cases e3
  have h0 := b0.toNat_lt; have h1 := b1.toNat_lt; have h2 := b2.toNat_lt; have h3 := b3.toNat_lt
  have e24 : (2 : Int) ^ (min (Int.toNat 24) (IntKind.bits .u32)) = 16777216 := rfl
  have e16 : (2 : Int) ^ (min (Int.toNat 16) (IntKind.bits .u32)) = 65536 := rfl
  have e8 : (2 : Int) ^ (min (Int.toNat 8) (IntKind.bits .u32)) = 256 := rfl
  have s : ∀ (x : UInt8) (m : Nat) (M : Int), (m : Int) = M → m ≤ 16777216 → IntKind.u32.wrap (IntKind.u32.wrap (x.toNat : Int) * M) = ((x.toNat * m : Nat) : Int) := fun x m M hm hle => by
    have hx := x.toNat_lt
    subst hm
    have h5 : x.toNat * m ≤ 255 * 16777216 := Nat.mul_le_mul (by omega) hle
    have e1 : IntKind.u32.wrap (x.toNat : Int) = (x.toNat : Int) := by rw [wrap_u32]; omega
    rw [e1, ← Int.natCast_mul, wrap_u32]
    omega
  have s3 : IntKind.u32.wrap (b3.toNat : Int) = ((b3.toNat : Nat) : Int) := by rw [wrap_u32]; omega
  rw [e24, e16, e8, s b0 16777216 16777216 rfl (by omega), s b1 65536 65536 rfl (by omega), s b2 256 256 rfl (by omega), s3]
  have o1 := or_add b0.toNat (b1.toNat * 65536) 24 (by omega)
  have o2 := or_add (b0.toNat * 256 + b1.toNat) (b2.toNat * 256) 16 (by omega)
  have o3 := or_add (b0.toNat * 65536 + b1.toNat * 256 + b2.toNat) b3.toNat 8 (by omega)
  rw [show b0.toNat * 2 ^ 24 = b0.toNat * 16777216 by omega] at o1
  rw [show (b0.toNat * 256 + b1.toNat) * 2 ^ 16 = b0.toNat * 16777216 + b1.toNat * 65536 by omega] at o2
  rw [show (b0.toNat * 65536 + b1.toNat * 256 + b2.toNat) * 2 ^ 8 = b0.toNat * 16777216 + b1.toNat * 65536 + b2.toNat * 256 by omega] at o3
  rw [or_nat _ _ (by omega) (by omega), o1, or_nat _ _ (by omega) (by omega), o2, or_nat _ _ (by omega) (by omega), o3, un4_eq]
theorem sum_spec (hs : Sl h a (bytesV bs)) (hl : bs.length = l) (hb : l < 9223372036854775807) : CallsH Tryz.prog 64 #[.slice a l c] h (fun v h' => v = .int .u32 (adl bs : Nat) ∧ h' = h) := by
  refine vf64 _ _ _ h _ ?_
  unfold F64
  refine ⟨fun n hh p q i => ∃ j : Nat, i = j ∧ j ≤ l ∧ n = l - j ∧ p = ((sums (bs.take j)).1 : Int) ∧ q = ((sums (bs.take j)).2 : Int) ∧ hh = h, ⟨_, 0, rfl, by omega, rfl, rfl, rfl, rfl⟩, ?_⟩
  rintro n hh _ _ _ i ⟨j, rfl, hj, rfl, rfl, rfl, rfl⟩
  have hlt := sums_lt (bs.take j)
  refine cond_split (fun hc => ?_) (fun hc => ?_)
  · have hjl : j < l := Int.ofNat_lt.1 (of_decide_eq_true hc)
    refine hs.one (f := byteV) hl (by omega) (by omega) fun ad x hx hcx => ?_
    rw [Int.toNat_natCast] at hx
    have hx8 := x.toNat_lt
    have e1 : Int.tmod (IntKind.u32.wrap (((sums (bs.take j)).1 : Int) + IntKind.u32.wrap (x.toNat : Int))) 65521 = ((((sums (bs.take j)).1 + x.toNat) % 65521 : Nat) : Int) := by
      rw [wrap_u32, wrap_u32, Int.emod_eq_of_lt (by omega) (by omega), Int.emod_eq_of_lt (by omega) (by omega), ← Int.natCast_add]; rfl
    refine ⟨_, hcx, by omega, by omega, l - (j + 1), by omega, j + 1, wrap_nat hjl (by omega), hjl, rfl, ?_, ?_, rfl⟩
    · rw [e1, sums_next hx]; rfl
    · rw [e1, sums_next hx]
      have h3 : ((sums (bs.take j)).1 + x.toNat) % 65521 < 65521 := Nat.mod_lt _ (by omega)
      rw [wrap_u32, Int.emod_eq_of_lt (by omega) (by omega), ← Int.natCast_add]; rfl
  · have hjl : j = l := by
      have : ¬ (j : Int) < l := of_decide_eq_false hc
      omega
    subst hjl
    rw [List.take_of_length_le (by omega)] at hlt ⊢
    have e16 : (2 : Int) ^ (min (Int.toNat 16) (IntKind.bits .u32)) = ((65536 : Nat) : Int) := rfl
    have ew : IntKind.u32.wrap (((sums bs).2 : Int) * ((65536 : Nat) : Int)) = (((sums bs).2 * 65536 : Nat) : Int) := by
      rw [wrap_u32, ← Int.natCast_mul]; omega
    have o := or_add (sums bs).2 (sums bs).1 16 (by omega)
    refine ⟨by omega, ?_, rfl⟩
    rw [e16, ew, or_nat _ _ (by omega) (by omega)]
    unfold adl
    rw [← o]
end Go.Proofs.YtgdgebmlcgohhaaGreatDoor.F
/-! ## Package proto: a copy, a frame. -/
namespace Go.Proofs.YtgdgebmlcgohhaaGreatDoor.F
open Go Go.VC Go.Proofs
set_option linter.unusedSimpArgs false
set_option linter.unusedVariables false
set_option maxRecDepth 100000
attribute [local irreducible] CallsH RunsTo PureTo

variable {S F G : Nat → Prop} {h0 h h1 : Heap} {L R L' : List A} {a b : Option Addr} {l c l2 c2 p t at_ : Nat} {bs cs : List UInt8} {vs : List Value}
theorem clone_spec (hs : Sl h a (bytesV bs)) (hl : bs.length = l) (hb : l < 140737488355328) : CallsH Tryz.prog 38 #[.slice a l c] h (fun v h' => ∃ a' c', v = .slice a' l c' ∧ St none_ h h' [BV a' l c' bs]) := by
  refine vf38 _ _ _ h _ ?_
  unfold F38
  have k := St.fresh h
  refine cond_split (fun hc => ?_) (fun hc => ?_)
  · have hbs : bs = [] := by
      cases bs with
      | nil => rfl
      | cons b r =>
        obtain ⟨ad, h0, _⟩ := hs 0 (byteV b) rfl
        subst h0; cases hc
    subst hbs
    simp only [List.length_nil] at hl
    subst hl
    exact ⟨_, _, rfl, k.vnil 5 (by omega)⟩
  · refine k.vnew fun b h1 k => ?_
    have k := k.blkvec (sz := 1) (n := 0) rfl (by omega) (by omega)
    refine k.app T30 und30 (by simp) (Src.slice (hs.ro.in k).sl (by rw [bytesV_len, hl, Nat.mul_one])) (oneC_bytes _) (by omega) fun a2 c2 h' k => ⟨_, _, _, rfl, a2, c2, by rw [Nat.zero_add], by rw [Nat.zero_add] at k; exact k⟩
/-- A payload's frame. -/
def frameB (p : Bytes) : Bytes := (be4 p.length ++ p) ++ be4 (adl (be4 p.length ++ p))
def frameR (p : Bytes) : Bytes × Int := if 65528 < p.length then ([], 2) else (frameB p, 0)
theorem frameB_len (p : Bytes) : (frameB p).length = p.length + 8 := by
  unfold frameB
  rw [List.length_append, List.length_append, be4_len, be4_len]; omega
theorem frame_spec (hs : Sl h a (bytesV bs)) (hl : bs.length = l) : CallsH Tryz.prog 24 #[.slice a l c] h
    (fun v h' => ∃ a' c', v = .tuple #[.slice a' (frameR bs).1.length c', .int .i64 (frameR bs).2] ∧ St none_ h h' [BV a' (frameR bs).1.length c' (frameR bs).1]) := by
  refine vf24 _ _ _ h _ ?_
  unfold F24
  have k := St.fresh h
  subst hl
  refine cond_split (fun hc => ?_) (fun hc => ?_)
  · have hlt : 65528 < bs.length := by
      have : (65528 : Int) < bs.length := of_decide_eq_true hc
      omega
    have e : frameR bs = ([], 2) := if_pos hlt
    rw [e]
    exact ⟨none, 0, rfl, k.vnil 5 (by omega)⟩
  · have hle : ¬ 65528 < bs.length := fun h => by
      have : ¬ (65528 : Int) < bs.length := of_decide_eq_false hc
      omega
    have e : frameR bs = (frameB bs, 0) := if_neg hle
    rw [e]
    have e2 : IntKind.u32.wrap (bs.length : Int) = (bs.length : Int) := by rw [wrap_u32]; omega
    rw [e2]
    obtain ⟨F1, G1, kF, _, _, _, back⟩ := (k.vnil 5 (sz := 1) (by omega)).frameA
    refine CallsH.mono (four_spec bs.length kF (by omega)) ?_
    rintro _ h2 ⟨a3, c3, rfl, k2⟩
    have k := back k2
    refine ⟨_, _, _, rfl, ?_⟩
    refine k.app T30 und30 (by simp) (Src.slice (hs.ro.in k).sl (by rw [bytesV_len, Nat.mul_one])) (oneC_bytes _) (by omega) fun a6 c6 h5 k => ⟨_, _, _, rfl, ?_⟩
    rw [List.nil_append, ← bytesV_app, Nat.zero_add] at k
    rw [Nat.zero_add]
    refine CallsH.mono (sum_spec (k.sl (a := a6)) (by rw [List.length_append, be4_len]) (by omega)) ?_
    rintro _ _ ⟨rfl, rfl⟩
    refine ⟨_, rfl, ?_⟩
    obtain ⟨F2, G2, kF2, _, _, _, back2⟩ := k.frameA
    refine CallsH.mono (four_spec (adl (be4 bs.length ++ bs)) kF2 (by omega)) ?_
    rintro _ h11 ⟨a12, c12, rfl, k3⟩
    have k := back2 k3
    rw [← bytesV_app] at k
    have el : 4 + bs.length + 4 = (frameB bs).length := by rw [frameB_len]; omega
    rw [el] at k ⊢
    exact ⟨_, _, _, rfl, a12, c12, rfl, k⟩
end Go.Proofs.YtgdgebmlcgohhaaGreatDoor.F
/-! ## Package proto: streams in plain Lean. -/
namespace Go.Proofs.YtgdgebmlcgohhaaGreatDoor.F
open Go Go.VC Go.Proofs
set_option linter.unusedSimpArgs false
set_option linter.unusedVariables false
set_option maxRecDepth 100000

/-- What stands in front of bytes that wait. -/
inductive Nx where
  | more
  | bad
  | got (p r : Bytes)
noncomputable def num4 (w : Bytes) : Nat := match w with
  | b0 :: b1 :: b2 :: b3 :: _ => un4 b0 b1 b2 b3
  | _ => 0
noncomputable def nextF (w : Bytes) : Nx :=
  if w.length < 4 then .more else if 65528 < num4 w then .bad else if w.length < num4 w + 8 then .more
  else if be4 (adl (w.take (num4 w + 4))) ≠ (w.drop (num4 w + 4)).take 4 then .bad else .got ((w.drop 4).take (num4 w)) (w.drop (num4 w + 8))
theorem num4_app {w x : Bytes} (h : 4 ≤ w.length) : num4 (w ++ x) = num4 w := by
  match w, h with
  | b0 :: b1 :: b2 :: b3 :: r, _ => rfl
theorem next_got {w x p r : Bytes} (h : nextF w = .got p r) : nextF (w ++ x) = .got p (r ++ x) ∧ r.length < w.length := by
  unfold nextF at h
  split at h
  · cases h
  rename_i h1
  split at h
  · cases h
  rename_i h2
  split at h
  · cases h
  rename_i h3
  split at h
  · cases h
  rename_i h4
  cases h
  unfold nextF
  have hn := num4_app (x := x) (show 4 ≤ w.length by omega)
  rw [hn, List.length_append, if_neg (by omega), if_neg h2, if_neg (by omega)]
  have e1 : (w ++ x).take (num4 w + 4) = w.take (num4 w + 4) := by rw [List.take_append_of_le_length (by omega)]
  have e2 : ((w ++ x).drop (num4 w + 4)).take 4 = (w.drop (num4 w + 4)).take 4 := by
    rw [List.drop_append_of_le_length (by omega), List.take_append_of_le_length (by rw [List.length_drop]; omega)]
  have e3 : ((w ++ x).drop 4).take (num4 w) = (w.drop 4).take (num4 w) := by
    rw [List.drop_append_of_le_length (by omega), List.take_append_of_le_length (by rw [List.length_drop]; omega)]
  have e4 : (w ++ x).drop (num4 w + 8) = w.drop (num4 w + 8) ++ x := by rw [List.drop_append_of_le_length (by omega)]
  rw [e1, e2, if_neg h4, e3, e4]
  refine ⟨rfl, ?_⟩
  rw [List.length_drop]; omega
theorem next_bad {w x : Bytes} (h : nextF w = .bad) : nextF (w ++ x) = .bad := by
  unfold nextF at h
  split at h
  · cases h
  rename_i h1
  have hn := num4_app (x := x) (show 4 ≤ w.length by omega)
  unfold nextF
  rw [hn, List.length_append, if_neg (by omega)]
  split at h
  · rename_i h2
    rw [if_pos h2]
  rename_i h2
  rw [if_neg h2]
  split at h
  · cases h
  rename_i h3
  split at h
  · rename_i h4
    rw [if_neg (by omega)]
    have e1 : (w ++ x).take (num4 w + 4) = w.take (num4 w + 4) := by rw [List.take_append_of_le_length (by omega)]
    have e2 : ((w ++ x).drop (num4 w + 4)).take 4 = (w.drop (num4 w + 4)).take 4 := by
      rw [List.drop_append_of_le_length (by omega), List.take_append_of_le_length (by rw [List.length_drop]; omega)]
    rw [e1, e2, if_pos h4]
  · cases h
/-- All frames that are whole, cut off: the payloads, what is left, is it spoilt? -/
noncomputable def cutN : Nat → Bytes → List Bytes × Bytes × Bool
  | 0, w => ([], w, false)
  | n + 1, w => match nextF w with
    | .more => ([], w, false)
    | .bad => ([], [], true)
    | .got p r => (p :: (cutN n r).1, (cutN n r).2)
noncomputable def cut (w : Bytes) : List Bytes × Bytes × Bool := cutN (w.length + 1) w
theorem cutN_fuel : ∀ (n m : Nat) (w : Bytes), w.length < n → w.length < m → cutN n w = cutN m w
  | 0, _, _, h, _ => absurd h (Nat.not_lt_zero _)
  | _ + 1, 0, _, _, h => absurd h (Nat.not_lt_zero _)
  | n + 1, m + 1, w, h1, h2 => by
    unfold cutN
    cases hn : nextF w with
    | more => rfl
    | bad => rfl
    | got p r =>
      have := (next_got (x := []) hn).2
      simp only
      rw [cutN_fuel n m r (by omega) (by omega)]
theorem cut_more {w : Bytes} (h : nextF w = .more) : cut w = ([], w, false) := by
  unfold cut cutN; rw [h]
theorem cut_bad {w : Bytes} (h : nextF w = .bad) : cut w = ([], [], true) := by
  unfold cut cutN; rw [h]
theorem cut_got {w p r : Bytes} (h : nextF w = .got p r) : cut w = (p :: (cut r).1, (cut r).2) := by
  have hl := (next_got (x := []) h).2
  have e := cutN_fuel w.length (r.length + 1) r hl (by omega)
  unfold cut
  rw [cutN, h]
  simp only
  rw [e]
/-- Bytes that come in two pieces. -/
theorem cut_app : ∀ (n : Nat) (w x : Bytes), w.length < n → cut (w ++ x) = if (cut w).2.2 = true then ((cut w).1, [], true) else ((cut w).1 ++ (cut ((cut w).2.1 ++ x)).1, (cut ((cut w).2.1 ++ x)).2)
  | 0, _, _, h => absurd h (Nat.not_lt_zero _)
  | n + 1, w, x, h => by
    cases hn : nextF w with
    | more =>
      rw [cut_more hn]
      simp
    | bad =>
      rw [cut_bad hn, cut_bad (next_bad hn)]; rfl
    | got p r =>
      obtain ⟨h1, h2⟩ := next_got (x := x) hn
      rw [cut_got hn, cut_got h1, cut_app n r x (by omega)]
      by_cases hs : (cut r).2.2 = true
      · simp only [hs, if_true]
      · simp only [hs, if_false]; rfl
end Go.Proofs.YtgdgebmlcgohhaaGreatDoor.F
/-! ## Package proto: forms of requests and replies, in plain Lean. -/
namespace Go.Proofs.YtgdgebmlcgohhaaGreatDoor.F
open Go Go.VC Go.Proofs
set_option linter.unusedSimpArgs false
set_option linter.unusedVariables false
set_option maxRecDepth 100000

variable {α β γ : Type}
/-- A reader in plain Lean: what is read, and what is left. -/
abbrev Po (α : Type) := Bytes → Option (α × Bytes)
def bindO (f : Po α) (g : α → Po β) : Po β := fun b => match f b with
  | some (x, r) => g x r
  | none => none
def retO (x : α) : Po α := fun b => some (x, b)
def noO : Po α := fun _ => none
theorem bindO_some {f : Po α} {g : α → Po β} {b r : Bytes} {y : β} : bindO f g b = some (y, r) ↔ ∃ x r1, f b = some (x, r1) ∧ g x r1 = some (y, r) := by
  unfold bindO
  cases h : f b with
  | none => simp
  | some p =>
    obtain ⟨x, r1⟩ := p
    simp only [Option.some.injEq, Prod.mk.injEq]
    constructor
    · intro h; exact ⟨x, r1, ⟨rfl, rfl⟩, h⟩
    · rintro ⟨_, _, ⟨rfl, rfl⟩, h⟩; exact h
theorem bindO_assoc (f : Po α) (g : α → Po β) (k : β → Po γ) : bindO (bindO f g) k = bindO f fun x => bindO (g x) k := by
  funext b
  unfold bindO
  cases f b with
  | none => rfl
  | some p => rfl
theorem bindO_ret (f : Po α) : bindO f retO = f := by
  funext b
  unfold bindO retO
  cases f b with
  | none => rfl
  | some p => rfl
theorem retO_bind (x : α) (g : α → Po β) : bindO (retO x) g = g x := rfl
/-- A form: just what is written is read. -/
def Fm (f : Po α) (p : α → Bytes) (P : α → Prop) : Prop := ∀ b x r, f b = some (x, r) ↔ P x ∧ b = p x ++ r
theorem Fm.bind {f : Po α} {g : α → Po β} {p : α → Bytes} {P : α → Prop} {q : α → β → Bytes} {Q : α → β → Prop} (key : β → α) (hf : Fm f p P) (hg : ∀ x, P x → Fm (g x) (q x) (Q x)) (hk : ∀ x y, P x → Q x y → key y = x) :
    Fm (bindO f g) (fun y => p (key y) ++ q (key y) y) (fun y => P (key y) ∧ Q (key y) y) := fun b y r => by
  rw [bindO_some]
  constructor
  · rintro ⟨x, r1, h1, h2⟩
    obtain ⟨a1, rfl⟩ := (hf _ _ _).1 h1
    obtain ⟨a3, rfl⟩ := (hg x a1 _ _ _).1 h2
    have e := hk x y a1 a3
    show (P (key y) ∧ Q (key y) y) ∧ _ = (p (key y) ++ q (key y) y) ++ r
    rw [e]
    exact ⟨⟨a1, a3⟩, by rw [List.append_assoc]⟩
  · rintro ⟨⟨h1, h2⟩, rfl⟩
    exact ⟨key y, q (key y) y ++ r, (hf _ _ _).2 ⟨h1, by rw [List.append_assoc]⟩, (hg _ h1 _ _ _).2 ⟨h2, rfl⟩⟩
theorem Fm.congr {f : Po α} {p p' : α → Bytes} {P P' : α → Prop} (k : Fm f p P) (h : ∀ x, P x ↔ P' x) (e : ∀ x, P x → p x = p' x) : Fm f p' P' := fun b x r => by
  rw [k b x r]
  constructor
  · rintro ⟨h1, h2⟩; exact ⟨(h x).1 h1, by rw [← e x h1]; exact h2⟩
  · rintro ⟨h1, h2⟩
    have h3 := (h x).2 h1
    exact ⟨h3, by rw [e x h3]; exact h2⟩
theorem Fm.ret (x : α) : Fm (retO x) (fun _ => []) (fun y => y = x) := fun b y r => by
  unfold retO
  simp only [Option.some.injEq, Prod.mk.injEq, List.nil_append]
  constructor
  · rintro ⟨h1, h2⟩; exact ⟨h1.symm, h2⟩
  · rintro ⟨h1, h2⟩; exact ⟨h1.symm, h2⟩
theorem Fm.no (p : α → Bytes) : Fm noO p (fun _ => False) := fun b y r => by
  unfold noO; simp
/-- A form of wire. -/
def ofR (f : Bytes → Rd α) : Po α := fun b => match f b with
  | .ok x n => some (x, b.drop n)
  | .err _ => none
theorem Form.fm {f : Bytes → Rd α} {p : α → Bytes} {P : α → Prop} (k : Form f p P) : Fm (ofR f) p P := fun b x r => by
  unfold ofR
  constructor
  · intro h
    cases hf : f b with
    | ok y n =>
      rw [hf] at h
      cases h
      exact ⟨(k.pg _ _ _ hf).1, k.split hf⟩
    | err e => rw [hf] at h; cases h
  · rintro ⟨h1, rfl⟩
    rw [k.gp x r h1]
    simp
/-! ### Parts -/
def oneO : Po UInt8
  | [] => none
  | c :: r => some (c, r)
theorem Fm.one : Fm oneO (fun c => [c]) (fun _ => True) := fun b x r => by
  cases b with
  | nil => simp [oneO]
  | cons c b => simp [oneO]
noncomputable def idO : Po Nat
  | b0 :: b1 :: b2 :: b3 :: r => some (un4 b0 b1 b2 b3, r)
  | _ => none
theorem Fm.id : Fm idO be4 (fun n => n < 4294967296) := fun b x r => by
  match b with
  | [] => simp [idO, be4]
  | [_] => simp [idO, be4]
  | [_, _] => simp [idO, be4]
  | [_, _, _] => simp [idO, be4]
  | b0 :: b1 :: b2 :: b3 :: s =>
    unfold idO
    constructor
    · intro h
      cases h
      exact ⟨un4_lt _ _ _ _, by rw [be4_un]; rfl⟩
    · rintro ⟨h1, h2⟩
      have h3 := un4_be h1
      unfold be4 at h2
      simp only [List.cons_append, List.nil_append, List.cons.injEq] at h2
      obtain ⟨rfl, rfl, rfl, rfl, rfl⟩ := h2
      show some (un4 _ _ _ _, s) = _
      rw [h3]
def rng64 (n : Int) : Prop := -9223372036854775808 ≤ n ∧ n < 9223372036854775808
def numO : Po Int := ofR getN
theorem Fm.num : Fm numO putN rng64 := Form.num.fm
def truB (t : Bool) : Bytes := [if t then 1 else 0]
def truO : Po Bool := bindO oneO fun c => if 1 < c.toNat then noO else retO (decide (c.toNat = 1))
theorem Fm.tru : Fm truO truB (fun _ => True) := by
  have k := Fm.bind (fun t : Bool => (if t then 1 else 0 : UInt8)) Fm.one (g := fun c => if 1 < c.toNat then noO else retO (decide (c.toNat = 1))) (q := fun _ _ => []) (Q := fun c t => c = if t then 1 else 0) (fun c _ => ?_) (fun c t _ h => h.symm)
  · refine k.congr (fun t => ?_) (fun t _ => rfl)
    simp
  · by_cases h : 1 < c.toNat
    · rw [if_pos h]
      refine (Fm.no fun _ => []).congr (fun t => ?_) (fun _ h => h.elim)
      constructor
      · exact False.elim
      · intro e; subst e
        cases t <;> exact absurd h (by decide)
    · rw [if_neg h]
      refine (Fm.ret _).congr (fun t => ?_) (fun _ _ => rfl)
      have h2 : c.toNat = 0 ∨ c.toNat = 1 := by omega
      constructor
      · rintro rfl
        rcases h2 with h3 | h3
        · rw [u8_eq h3]; decide
        · rw [u8_eq h3]; decide
      · rintro rfl
        cases t <;> rfl
def takeO (n : Int) : Po Bytes := fun b => if 0 ≤ n ∧ n ≤ b.length then some (b.take n.toNat, b.drop n.toNat) else none
theorem Fm.take (n : Int) : Fm (takeO n) (fun s => s) (fun s => (s.length : Int) = n) := fun b x r => by
  unfold takeO
  constructor
  · intro h
    split at h
    · rename_i h1
      cases h
      exact ⟨by show ((b.take n.toNat).length : Int) = n; rw [List.length_take]; omega, (List.take_append_drop _ _).symm⟩
    · cases h
  · rintro ⟨h1, rfl⟩
    subst h1
    show (if 0 ≤ (x.length : Int) ∧ (x.length : Int) ≤ ((x ++ r).length : Nat) then some ((x ++ r).take (x.length : Int).toNat, (x ++ r).drop (x.length : Int).toNat) else none) = _
    rw [if_pos (by rw [List.length_append]; omega)]
    simp
def texO : Po Bytes := bindO numO takeO
theorem Fm.tex : Fm texO putS (fun s => s.length < 9223372036854775808) := by
  have k := Fm.bind (fun s : Bytes => (s.length : Int)) Fm.num (fun n _ => Fm.take n) (fun n s _ h => h)
  refine k.congr (fun s => ?_) (fun s _ => rfl)
  constructor
  · rintro ⟨⟨_, h⟩, _⟩
    exact Int.ofNat_lt.1 h
  · intro h
    exact ⟨⟨by omega, by omega⟩, rfl⟩
def chk (p : α → Bool) (x : α) : Po α := if p x then retO x else noO
theorem Fm.chk (p : α → Bool) (x : α) : Fm (chk p x) (fun _ => []) (fun y => y = x ∧ p x = true) := by
  unfold F.chk
  cases h : p x
  · exact (Fm.no fun _ => []).congr (fun y => by simp) (fun _ h => h.elim)
  · exact (Fm.ret x).congr (fun y => by simp) (fun _ _ => rfl)
def valB (c : UInt8) : Po Val :=
  if c.toNat = 1 then bindO numO fun n => retO ⟨1, n, [], false⟩
  else if c.toNat = 2 then bindO texO fun s => retO ⟨2, 0, s, false⟩
  else if c.toNat = 3 then bindO truO fun t => retO ⟨3, 0, [], t⟩
  else retO ⟨c.toNat, 0, [], false⟩
def valO : Po Val := bindO oneO fun c => bindO (valB c) (chk validV)
theorem Fm.valB (c : UInt8) : Fm (valB c) (fun v => if c.toNat = 1 then putN v.n else if c.toNat = 2 then putS v.s else if c.toNat = 3 then truB v.b else [])
    (fun v => if c.toNat = 1 then rng64 v.n ∧ v = ⟨1, v.n, [], false⟩ else if c.toNat = 2 then v.s.length < 9223372036854775808 ∧ v = ⟨2, 0, v.s, false⟩ else if c.toNat = 3 then v = ⟨3, 0, [], v.b⟩ else v = ⟨c.toNat, 0, [], false⟩) := by
  unfold F.valB
  by_cases h1 : c.toNat = 1
  · simp only [h1, if_true]
    exact (Fm.bind (fun v : Val => v.n) Fm.num (g := fun n => retO (⟨1, n, [], false⟩ : Val)) (fun n _ => Fm.ret _) (fun n v _ h => by rw [h])).congr (fun v => Iff.rfl) (fun v _ => by simp)
  by_cases h2 : c.toNat = 2
  · simp only [h2, if_true, if_neg h1]
    exact (Fm.bind (fun v : Val => v.s) Fm.tex (g := fun s => retO (⟨2, 0, s, false⟩ : Val)) (fun n _ => Fm.ret _) (fun n v _ h => by rw [h])).congr (fun v => Iff.rfl) (fun v _ => by simp)
  by_cases h3 : c.toNat = 3
  · simp only [h3, if_true, if_neg h1, if_neg h2]
    exact (Fm.bind (fun v : Val => v.b) Fm.tru (g := fun t => retO (⟨3, 0, [], t⟩ : Val)) (fun n _ => Fm.ret _) (fun n v _ h => by rw [h])).congr (fun v => by simp) (fun v _ => by simp)
  · simp only [if_neg h1, if_neg h2, if_neg h3]
    exact Fm.ret _
theorem valid_mk {v : Val} (h : validV v = true) : (v.k = 1 ∧ v = ⟨1, v.n, [], false⟩) ∨ (v.k = 2 ∧ v = ⟨2, 0, v.s, false⟩ ∧ v.s.length ≤ 256) ∨ (v.k = 3 ∧ v = ⟨3, 0, [], v.b⟩) := by
  obtain ⟨k, n, s, b⟩ := v
  unfold validV at h
  simp only at h ⊢
  split at h
  · rename_i h1
    subst h1
    simp at h
    obtain ⟨rfl, rfl⟩ := h
    exact .inl ⟨rfl, rfl⟩
  split at h
  · rename_i h1
    subst h1
    simp at h
    obtain ⟨⟨rfl, rfl⟩, h⟩ := h
    exact .inr (.inl ⟨rfl, rfl, h⟩)
  split at h
  · rename_i h1
    subst h1
    simp at h
    obtain ⟨rfl, rfl⟩ := h
    exact .inr (.inr ⟨rfl, rfl⟩)
  · cases h
theorem Fm.val : Fm valO encV okV := by
  have k := Fm.bind (fun v : Val => UInt8.ofNat v.k.toNat) Fm.one (g := fun c => bindO (F.valB c) (F.chk validV)) (q := fun c v => if c.toNat = 1 then putN v.n else if c.toNat = 2 then putS v.s else if c.toNat = 3 then truB v.b else [])
    (Q := fun c v => okV v ∧ v.k = c.toNat) (fun c _ => ?_) (fun c v _ h => ?_)
  · refine k.congr (fun v => ?_) (fun v h => ?_)
    · constructor
      · intro h; exact h.2.1
      · intro h
        refine ⟨trivial, h, ?_⟩
        rcases valid_mk h.1 with ⟨e, _⟩ | ⟨e, _, _⟩ | ⟨e, _⟩ <;> rw [e] <;> rfl
    · obtain ⟨_, h2, h3⟩ := h
      rcases valid_mk h2.1 with ⟨e, e2⟩ | ⟨e, e2, _⟩ | ⟨e, e2⟩
      · rw [e2]; rfl
      · rw [e2]; rfl
      · rw [e2]; rfl
  · have k2 := Fm.bind (fun v : Val => v) (Fm.valB c) (g := F.chk validV) (fun v _ => Fm.chk validV v) (fun x y _ h => h.1)
    refine k2.congr (fun v => ?_) (fun v _ => by simp)
    constructor
    · rintro ⟨h1, h2, h3⟩
      split at h1
      · rename_i hc
        have e := h1.2
        refine ⟨⟨h3, h1.1.1, h1.1.2⟩, ?_⟩
        rw [e, hc]; rfl
      split at h1
      · rename_i hc
        have e := h1.2
        refine ⟨⟨h3, ?_⟩, ?_⟩
        · rw [e]; exact ⟨by show _ ≤ (0 : Int); omega, by show (0 : Int) < _; omega⟩
        · rw [e, hc]; rfl
      split at h1
      · rename_i hc
        refine ⟨⟨h3, ?_⟩, ?_⟩
        · rw [h1]; exact ⟨by show _ ≤ (0 : Int); omega, by show (0 : Int) < _; omega⟩
        · rw [h1, hc]; rfl
      · rename_i hc1 hc2 hc3
        rw [h1] at h3
        rcases valid_mk h3 with ⟨e, _⟩ | ⟨e, _⟩ | ⟨e, _⟩
        · have e : (c.toNat : Int) = 1 := e
          omega
        · have e : (c.toNat : Int) = 2 := e
          omega
        · have e : (c.toNat : Int) = 3 := e
          omega
    · rintro ⟨⟨h1, h2⟩, h3⟩
      refine ⟨?_, rfl, h1⟩
      rcases valid_mk h1 with ⟨e, e2⟩ | ⟨e, e2, e3⟩ | ⟨e, e2⟩
      · rw [if_pos (by omega)]; exact ⟨h2, e2⟩
      · rw [if_neg (by omega), if_pos (by omega)]; exact ⟨by omega, e2⟩
      · rw [if_neg (by omega), if_neg (by omega), if_pos (by omega)]; exact e2
  · rw [h.2, Int.toNat_natCast, UInt8.ofNat_toNat]
noncomputable def evO : Po Ev := ofR evR
theorem Fm.ev : Fm evO encE okE := Form.ev.fm
/-! ### Lists -/
def repO (f : Po α) : Nat → Po (List α)
  | 0 => retO []
  | n + 1 => bindO f fun x => bindO (repO f n) fun xs => retO (x :: xs)
theorem repO_snoc (f : Po α) : ∀ n, repO f (n + 1) = bindO (repO f n) fun xs => bindO f fun x => retO (xs ++ [x])
  | 0 => rfl
  | n + 1 => by
    have ih := repO_snoc f n
    show bindO f (fun x => bindO (repO f (n + 1)) fun xs => retO (x :: xs)) = bindO (bindO f fun x => bindO (repO f n) fun xs => retO (x :: xs)) _
    rw [bindO_assoc]
    congr 1
    funext x
    rw [ih, bindO_assoc, bindO_assoc]
    congr 1
    funext xs
    rw [bindO_assoc, retO_bind]
    congr 1
theorem Fm.rep {f : Po α} {p : α → Bytes} {P : α → Prop} (k : Fm f p P) : ∀ n, Fm (repO f n) (fun xs => xs.flatMap p) (fun xs => xs.length = n ∧ ∀ x ∈ xs, P x)
  | 0 => (Fm.ret ([] : List α)).congr (fun xs => by
      constructor
      · rintro rfl; exact ⟨rfl, by simp⟩
      · rintro ⟨h, _⟩; exact List.eq_nil_of_length_eq_zero h) (fun xs h => by subst h; rfl)
  | n + 1 => fun b xs r => by
    show bindO f (fun x => bindO (repO f n) fun xs => retO (x :: xs)) b = some (xs, r) ↔ _
    have ih := Fm.rep k n
    rw [bindO_some]
    constructor
    · rintro ⟨x, r1, h1, h2⟩
      obtain ⟨ys, r2, h3, h4⟩ := bindO_some.1 h2
      cases h4
      obtain ⟨a1, rfl⟩ := (k _ _ _).1 h1
      obtain ⟨⟨a2, a3⟩, rfl⟩ := (ih _ _ _).1 h3
      refine ⟨⟨by simp [a2], fun y hy => ?_⟩, by simp⟩
      rcases List.mem_cons.1 hy with rfl | hy
      · exact a1
      · exact a3 y hy
    · rintro ⟨⟨h1, h2⟩, rfl⟩
      cases xs with
      | nil => simp at h1
      | cons x ys =>
        refine ⟨x, ys.flatMap p ++ r, (k _ _ _).2 ⟨h2 x (by simp), by simp⟩, bindO_some.2 ⟨ys, r, (ih _ _ _).2 ⟨⟨by simpa using h1, fun y hy => h2 y (by simp [hy])⟩, rfl⟩, rfl⟩⟩
def manyO (f : Po α) (n : Int) : Po (List α) := fun b => if 0 ≤ n ∧ n ≤ b.length then repO f n.toNat b else none
def lisO (f : Po α) : Po (List α) := bindO numO (manyO f)
def putL (p : α → Bytes) (xs : List α) : Bytes := putN xs.length ++ xs.flatMap p
theorem flat_ge {p : α → Bytes} {P : α → Prop} (h : ∀ x, P x → 1 ≤ (p x).length) : ∀ {xs : List α}, (∀ x ∈ xs, P x) → xs.length ≤ (xs.flatMap p).length
  | [], _ => Nat.zero_le _
  | x :: xs, hx => by
    have h1 := h x (hx x (by simp))
    have h2 := flat_ge h (xs := xs) fun y hy => hx y (by simp [hy])
    rw [List.flatMap_cons, List.length_append, List.length_cons]; omega
theorem Fm.lis {f : Po α} {p : α → Bytes} {P : α → Prop} (k : Fm f p P) (h : ∀ x, P x → 1 ≤ (p x).length) : Fm (lisO f) (putL p) (fun xs => xs.length < 9223372036854775808 ∧ ∀ x ∈ xs, P x) := by
  have k2 := Fm.bind (fun xs : List α => (xs.length : Int)) Fm.num (g := manyO f) (q := fun _ xs => xs.flatMap p) (Q := fun n xs => (xs.length : Int) = n ∧ ∀ x ∈ xs, P x) (fun n _ b xs r => ?_) (fun n xs _ h => h.1)
  · refine k2.congr (fun xs => ?_) (fun xs _ => rfl)
    constructor
    · rintro ⟨⟨_, h1⟩, _, h2⟩
      exact ⟨Int.ofNat_lt.1 h1, h2⟩
    · rintro ⟨h1, h2⟩
      exact ⟨⟨by omega, by omega⟩, rfl, h2⟩
  · unfold manyO
    constructor
    · intro hh
      split at hh
      · rename_i hn
        obtain ⟨⟨a1, a2⟩, a3⟩ := (k.rep n.toNat _ _ _).1 hh
        exact ⟨⟨by omega, a2⟩, a3⟩
      · cases hh
    · rintro ⟨⟨h1, h2⟩, rfl⟩
      have h3 := flat_ge h h2
      subst h1
      rw [if_pos (by
        show 0 ≤ (xs.length : Int) ∧ (xs.length : Int) ≤ ((xs.flatMap p ++ r).length : Nat)
        rw [List.length_append]; omega)]
      exact (k.rep _ _ _ _).2 ⟨⟨by simp, h2⟩, rfl⟩
theorem putN_pos (n : Int) : 1 ≤ (putN n).length := (putZ_len 9 (zig n)).1
theorem putS_pos (s : Bytes) : 1 ≤ (putS s).length := by
  have := putN_pos s.length
  unfold putS; rw [List.length_append]; omega
theorem putL_pos (p : α → Bytes) (xs : List α) : 1 ≤ (putL p xs).length := by
  have := putN_pos xs.length
  unfold putL; rw [List.length_append]; omega
theorem encV_pos (v : Val) : 1 ≤ (encV v).length := by unfold encV; rw [List.length_cons]; omega
theorem encE_pos (e : Ev) : 1 ≤ (encE e).length := by
  have := putS_pos e.t
  unfold encE; rw [List.length_append]; omega
end Go.Proofs.YtgdgebmlcgohhaaGreatDoor.F
/-! ## Package proto: requests and replies, in plain Lean. -/
namespace Go.Proofs.YtgdgebmlcgohhaaGreatDoor.F
open Go Go.VC Go.Proofs
set_option linter.unusedSimpArgs false
set_option linter.unusedVariables false
set_option maxRecDepth 100000

/-! ### Requests -/
structure Rq where
  id : Nat
  k : Int
  name : Bytes
  text : Bytes
  names : List Bytes
  evs : List Ev
deriving DecidableEq
abbrev noRq : Rq := ⟨0, 0, [], [], [], []⟩
/-- Of which fields a kind speaks. -/
def spk (k : Int) : List Nat :=
  if k = 1 ∨ k = 9 ∨ k = 10 then [1] else if k = 2 then [0, 1] else if k = 3 ∨ k = 8 ∨ k = 11 then [0] else if k = 4 then [3] else if k = 5 then [2] else if k = 12 then [2, 3] else []
def empF (i : Nat) (q : Rq) : Bool := match i with
  | 0 => decide (q.name = [])
  | 1 => decide (q.text = [])
  | 2 => decide (q.names = [])
  | _ => decide (q.evs = [])
def putF (i : Nat) (q : Rq) : Bytes := match i with
  | 0 => putS q.name
  | 1 => putS q.text
  | 2 => putL putS q.names
  | _ => putL encF q.evs
def short (s : Bytes) : Prop := s.length < 9223372036854775808
def okF (i : Nat) (q : Rq) : Prop := match i with
  | 0 => short q.name
  | 1 => short q.text
  | 2 => q.names.length < 9223372036854775808 ∧ ∀ s ∈ q.names, short s
  | _ => q.evs.length < 9223372036854775808 ∧ ∀ e ∈ q.evs, okE e
def setF (i : Nat) (p q : Rq) : Rq := match i with
  | 0 => { q with name := p.name }
  | 1 => { q with text := p.text }
  | 2 => { q with names := p.names }
  | _ => { q with evs := p.evs }
noncomputable def getF (i : Nat) (q : Rq) : Po Rq := match i with
  | 0 => bindO texO fun s => retO { q with name := s }
  | 1 => bindO texO fun s => retO { q with text := s }
  | 2 => bindO (lisO texO) fun s => retO { q with names := s }
  | _ => bindO (lisO evO) fun s => retO { q with evs := s }
noncomputable def getsF : List Nat → Rq → Po Rq
  | [], q => retO q
  | i :: is, q => bindO (getF i q) (getsF is)
theorem encF_ok {e : Ev} (h : okE e) : encF e = encE e := by unfold encF; rw [if_pos h.1]
theorem encF_flat : ∀ {es : List Ev}, (∀ e ∈ es, okE e) → es.flatMap encF = es.flatMap encE
  | [], _ => rfl
  | e :: es, h => by
    rw [List.flatMap_cons, List.flatMap_cons, encF_ok (h e (by simp)), encF_flat fun x hx => h x (by simp [hx])]
theorem Fm.getF (i : Nat) (q : Rq) : Fm (getF i q) (putF i) (fun p => okF i p ∧ p = setF i p q) := by
  match i with
  | 0 => exact (Fm.bind (fun p : Rq => p.name) Fm.tex (g := fun s => retO { q with name := s }) (fun n _ => Fm.ret _) (fun n v _ h => by rw [h])).congr (p' := putF 0) (fun v => Iff.rfl) (fun v _ => by simp [putF])
  | 1 => exact (Fm.bind (fun p : Rq => p.text) Fm.tex (g := fun s => retO { q with text := s }) (fun n _ => Fm.ret _) (fun n v _ h => by rw [h])).congr (p' := putF 1) (fun v => Iff.rfl) (fun v _ => by simp [putF])
  | 2 => exact (Fm.bind (fun p : Rq => p.names) (Fm.lis Fm.tex fun s _ => putS_pos s) (g := fun s => retO { q with names := s }) (fun n _ => Fm.ret _) (fun n v _ h => by rw [h])).congr (p' := putF 2) (fun v => Iff.rfl) (fun v _ => by simp [putF])
  | n + 3 => exact (Fm.bind (fun p : Rq => p.evs) (Fm.lis Fm.ev fun s _ => encE_pos s) (g := fun s => retO { q with evs := s }) (fun n _ => Fm.ret _) (fun n v _ h => by rw [h])).congr (p' := putF (n + 3)) (fun v => Iff.rfl) (fun v h => by
      show putL encE v.evs ++ [] = putL encF v.evs
      unfold putL
      rw [encF_flat h.1.2, List.append_nil])
theorem spk_cases (k : Int) : spk k = [1] ∨ spk k = [0, 1] ∨ spk k = [0] ∨ spk k = [3] ∨ spk k = [2] ∨ spk k = [2, 3] ∨ spk k = [] := by
  unfold spk
  split
  · exact .inl rfl
  split
  · exact .inr (.inl rfl)
  split
  · exact .inr (.inr (.inl rfl))
  split
  · exact .inr (.inr (.inr (.inl rfl)))
  split
  · exact .inr (.inr (.inr (.inr (.inl rfl))))
  split
  · exact .inr (.inr (.inr (.inr (.inr (.inl rfl)))))
  · exact .inr (.inr (.inr (.inr (.inr (.inr rfl)))))
def fitF (is : List Nat) (q : Rq) : Prop := (∀ i ∈ is, okF i q) ∧ ∀ i, i < 4 → i ∉ is → empF i q = true
theorem emp4 {is : List Nat} {q : Rq} : (∀ i, i < 4 → i ∉ is → empF i q = true) ↔ (0 ∉ is → q.name = []) ∧ (1 ∉ is → q.text = []) ∧ (2 ∉ is → q.names = []) ∧ (3 ∉ is → q.evs = []) := by
  constructor
  · intro h
    exact ⟨fun h0 => by simpa [empF] using h 0 (by omega) h0, fun h0 => by simpa [empF] using h 1 (by omega) h0, fun h0 => by simpa [empF] using h 2 (by omega) h0, fun h0 => by simpa [empF] using h 3 (by omega) h0⟩
  · rintro ⟨h0, h1, h2, h3⟩ i hi hn
    match i, hi with
    | 0, _ => simpa [empF] using h0 hn
    | 1, _ => simpa [empF] using h1 hn
    | 2, _ => simpa [empF] using h2 hn
    | 3, _ => simpa [empF] using h3 hn
theorem Fm.getsF (k : Int) (id : Nat) : Fm (getsF (spk k) ⟨id, k, [], [], [], []⟩) (fun q => (spk k).flatMap fun i => putF i q) (fun q => q.id = id ∧ q.k = k ∧ fitF (spk k) q) := by
  have one : ∀ i, i < 4 → Fm (F.getsF [i] ⟨id, k, [], [], [], []⟩) (fun q => [i].flatMap fun i => putF i q) (fun q => q.id = id ∧ q.k = k ∧ fitF [i] q) := fun i hi => by
    show Fm (bindO (F.getF i _) retO) _ _
    rw [bindO_ret]
    refine (Fm.getF i _).congr (fun q => ?_) (fun q _ => by simp)
    obtain ⟨qi, qk, qn, qt, qs, qe⟩ := q
    unfold fitF
    rw [emp4]
    match i, hi with
    | 0, _ => simp [setF, Rq.mk.injEq]; constructor <;> (rintro ⟨a, b, c, d, e, f⟩; exact ⟨by assumption, by assumption, by assumption, by assumption, by assumption, by assumption⟩)
    | 1, _ => simp [setF, Rq.mk.injEq]; constructor <;> (rintro ⟨a, b, c, d, e, f⟩; exact ⟨by assumption, by assumption, by assumption, by assumption, by assumption, by assumption⟩)
    | 2, _ => simp [setF, Rq.mk.injEq]; constructor <;> (rintro ⟨a, b, c, d, e, f⟩; exact ⟨by assumption, by assumption, by assumption, by assumption, by assumption, by assumption⟩)
    | 3, _ => simp [setF, Rq.mk.injEq]; constructor <;> (rintro ⟨a, b, c, d, e, f⟩; exact ⟨by assumption, by assumption, by assumption, by assumption, by assumption, by assumption⟩)
  have two : ∀ i, i = 0 ∨ i = 2 → Fm (F.getsF [i, i + 1] ⟨id, k, [], [], [], []⟩) (fun q => [i, i + 1].flatMap fun i => putF i q) (fun q => q.id = id ∧ q.k = k ∧ fitF [i, i + 1] q) := fun i hi => by
    show Fm (bindO (F.getF i _) fun q => bindO (F.getF (i + 1) q) retO) _ _
    refine (Fm.bind (fun q : Rq => setF i q ⟨id, k, [], [], [], []⟩) (Fm.getF i _) (g := fun q => bindO (F.getF (i + 1) q) retO) (q := fun _ => putF (i + 1)) (Q := fun q p => okF (i + 1) p ∧ p = setF (i + 1) p q) (fun q _ => by rw [bindO_ret]; exact Fm.getF (i + 1) q) (fun x y h1 h2 => ?_)).congr (fun q => ?_) (fun q _ => ?_)
    · rcases hi with rfl | rfl
      · have e := h2.2; rw [e]; exact h1.2.symm
      · have e := h2.2; rw [e]; exact h1.2.symm
    · obtain ⟨qi, qk, qn, qt, qs, qe⟩ := q
      unfold fitF
      rw [emp4]
      rcases hi with rfl | rfl
      · simp [setF, okF, Rq.mk.injEq]
        constructor
        · rintro ⟨a, b, c, d, e, f⟩; exact ⟨c, d, ⟨a, b⟩, e, f⟩
        · rintro ⟨c, d, ⟨a, b⟩, e, f⟩; exact ⟨a, b, c, d, e, f⟩
      · simp [setF, okF, Rq.mk.injEq]
        constructor
        · rintro ⟨a, b, c, d, e, f⟩; exact ⟨c, d, ⟨a, b⟩, e, f⟩
        · rintro ⟨c, d, ⟨a, b⟩, e, f⟩; exact ⟨a, b, c, d, e, f⟩
    · rcases hi with rfl | rfl <;> simp [putF, setF]
  rcases spk_cases k with e | e | e | e | e | e | e <;> rw [e]
  · exact one 1 (by omega)
  · exact two 0 (.inl rfl)
  · exact one 0 (by omega)
  · exact one 3 (by omega)
  · exact one 2 (by omega)
  · exact two 2 (.inr rfl)
  · refine (Fm.ret _).congr (fun q => ?_) (fun q _ => rfl)
    obtain ⟨qi, qk, qn, qt, qs, qe⟩ := q
    unfold fitF
    rw [emp4]
    simp [Rq.mk.injEq]
def known (k : Int) : Prop := 1 ≤ k ∧ k ≤ 12
instance (k : Int) : Decidable (known k) := inferInstanceAs (Decidable (_ ∧ _))
noncomputable def askedO : Po Rq := bindO oneO fun c => bindO idO fun n => if known c.toNat then getsF (spk c.toNat) ⟨n, c.toNat, [], [], [], []⟩ else noO
def putQ (q : Rq) : Bytes := [UInt8.ofNat q.k.toNat] ++ (be4 q.id ++ (spk q.k).flatMap fun i => putF i q)
def okQ (q : Rq) : Prop := known q.k ∧ q.id < 4294967296 ∧ fitF (spk q.k) q
theorem known_byte {k : Int} (h : known k) : ((UInt8.ofNat k.toNat).toNat : Int) = k := by
  have h1 := h.1
  have h2 := h.2
  rw [UInt8.toNat_ofNat']; omega
theorem Fm.asked : Fm askedO putQ okQ := fun b q r => by
  unfold askedO
  constructor
  · intro h
    obtain ⟨c, r1, h1, hA⟩ := bindO_some.1 h
    clear h
    obtain ⟨_, rfl⟩ := (Fm.one _ _ _).1 h1
    obtain ⟨n, r2, h2, h⟩ := bindO_some.1 hA
    clear hA
    obtain ⟨hn, rfl⟩ := (Fm.id _ _ _).1 h2
    split at h
    · rename_i hk
      obtain ⟨⟨a1, a2, a3⟩, rfl⟩ := (Fm.getsF _ _ _ _ _).1 h
      rw [← a2] at hk a3 ⊢
      refine ⟨⟨hk, by rw [a1]; exact hn, a3⟩, ?_⟩
      unfold putQ
      have e : UInt8.ofNat q.k.toNat = c := by rw [a2, Int.toNat_natCast, UInt8.ofNat_toNat]
      rw [e, a1]
      simp only [List.append_assoc]
    · cases h
  · rintro ⟨⟨h1, h2, h3⟩, rfl⟩
    have hb := known_byte h1
    refine bindO_some.2 ⟨UInt8.ofNat q.k.toNat, _, (Fm.one _ _ _).2 ⟨trivial, by unfold putQ; simp only [List.append_assoc]; rfl⟩, bindO_some.2 ⟨q.id, _, (Fm.id _ _ _).2 ⟨h2, rfl⟩, ?_⟩⟩
    rw [hb, if_pos h1]
    exact (Fm.getsF _ _ _ _ _).2 ⟨⟨rfl, rfl, h3⟩, rfl⟩
/-- What Asked answers. -/
noncomputable def askedR (b : Bytes) : Rq × Int := if 65528 < b.length then (noRq, 2) else match askedO b with
  | some (q, []) => (q, 0)
  | _ => (noRq, 301)
def faultEs : List Ev → Int
  | [] => 0
  | e :: r => if faultE e = 0 then faultEs r else faultE e
/-- The first fault of what is written. -/
def faultF (is : List Nat) (q : Rq) : Int := if 3 ∈ is then faultEs q.evs else 0
/-- Is a field filled of which its kind does not speak? -/
def stray (q : Rq) : Bool := (List.range 4).any fun i => !(spk q.k).contains i && !(empF i q)
theorem stray_iff {q : Rq} : stray q = true ↔ ∃ i, i < 4 ∧ i ∉ spk q.k ∧ empF i q = false := by
  unfold stray
  simp
/-- What Ask answers. -/
def askR (q : Rq) : Bytes × Int :=
  if ¬ known q.k then ([], 301) else if stray q = true then ([], 301)
  else if faultF (spk q.k) q ≠ 0 then ([], faultF (spk q.k) q) else if 65528 < (putQ q).length then ([], 2) else (putQ q, 0)
theorem faultEs0 : ∀ {es : List Ev}, faultEs es = 0 ↔ ∀ e ∈ es, faultE e = 0
  | [] => by simp [faultEs]
  | e :: es => by
    have ih := faultEs0 (es := es)
    unfold faultEs
    by_cases h : faultE e = 0
    · rw [if_pos h, ih]; simp [h]
    · rw [if_neg h]; simp [h]
theorem fault_take {es : List Ev} : ∀ {j : Nat} {x : Ev}, es[j]? = some x → faultEs (es.take j) = 0 → faultEs (es.take (j + 1)) = faultE x := by
  induction es with
  | nil => intro j x h; simp at h
  | cons e es ih =>
    intro j x h h0
    cases j with
    | zero =>
      simp at h; subst h
      simp only [Nat.zero_add, List.take_succ_cons, List.take_zero, faultEs]
      split
      · rename_i he; exact he.symm
      · rfl
    | succ j =>
      simp only [List.take_succ_cons, faultEs] at h0 ⊢
      split at h0
      · rename_i he
        rw [if_pos he]
        exact ih (by simpa using h) h0
      · rename_i he; exact absurd h0 he
theorem fault_stay {es : List Ev} : ∀ {j : Nat}, faultEs (es.take j) ≠ 0 → faultEs (es.take (j + 1)) = faultEs (es.take j) := by
  induction es with
  | nil => intro j h; simp [faultEs] at h
  | cons e es ih =>
    intro j h
    cases j with
    | zero => simp [faultEs] at h
    | succ j =>
      simp only [List.take_succ_cons, faultEs] at h ⊢
      split
      · rename_i he
        rw [if_pos he] at h
        exact ih h
      · rfl
/-- What a request must be to be written at all: its numbers and texts are such as memory holds. -/
def rngQ (q : Rq) : Prop := q.id < 4294967296 ∧ short q.name ∧ short q.text ∧ (q.names.length < 9223372036854775808 ∧ ∀ s ∈ q.names, short s) ∧ q.evs.length < 9223372036854775808 ∧ ∀ e ∈ q.evs, rngE e
theorem ask_ok {q : Rq} (hr : rngQ q) : (askR q).2 = 0 ↔ okQ q ∧ (putQ q).length ≤ 65528 := by
  obtain ⟨r1, r2, r3, r4, r5, r6⟩ := hr
  unfold askR
  constructor
  · intro h
    split at h
    · cases h
    rename_i h1
    split at h
    · cases h
    rename_i h2
    split at h
    · rename_i h3; exact absurd h h3
    rename_i h3
    split at h
    · cases h
    rename_i h4
    refine ⟨⟨by simpa using h1, r1, ?_, ?_⟩, by omega⟩
    · intro i hi
      match i with
      | 0 => exact r2
      | 1 => exact r3
      | 2 => exact r4
      | n + 3 =>
        have h3 : faultF (spk q.k) q = 0 := by simpa using h3
        unfold faultF at h3
        have h5 : n + 3 = 3 := by
          rcases spk_cases q.k with e | e | e | e | e | e | e <;> rw [e] at hi <;> simp at hi <;> omega
        rw [h5] at hi
        rw [if_pos hi] at h3
        exact ⟨r5, fun e he => ⟨faultEs0.1 h3 e he, r6 e he⟩⟩
    · intro i hi hn
      cases he : empF i q
      · exact absurd (stray_iff.2 ⟨i, hi, hn, he⟩) h2
      · rfl
  · rintro ⟨⟨h1, h2, h3, h4⟩, h5⟩
    rw [if_neg (by simpa using h1), if_neg, if_neg, if_neg (by omega)]
    · unfold faultF
      split
      · rename_i h6
        have := (h3 3 h6).2
        simp only [ne_eq, Decidable.not_not]
        exact faultEs0.2 fun e he => (this e he).1
      · simp
    · intro hs
      obtain ⟨i, hi, hn, he⟩ := stray_iff.1 hs
      rw [h4 i hi hn] at he; cases he
theorem ask_val {q : Rq} (h : (askR q).2 = 0) : (askR q).1 = putQ q := by
  unfold askR at h ⊢
  split at h
  · cases h
  rename_i h1
  rw [if_neg h1]
  split at h
  · cases h
  rename_i h2
  rw [if_neg h2]
  split at h
  · rename_i h3; exact absurd h h3
  rename_i h3
  rw [if_neg h3]
  split at h
  · cases h
  rename_i h4
  rw [if_neg h4]
theorem asked_ok {b : Bytes} {q : Rq} : askedR b = (q, 0) ↔ okQ q ∧ b = putQ q ∧ b.length ≤ 65528 := by
  unfold askedR
  constructor
  · intro h
    split at h
    · cases h
    rename_i h1
    split at h
    · rename_i q' hq
      cases h
      obtain ⟨a1, a2⟩ := (Fm.asked _ _ _).1 hq
      exact ⟨a1, by simpa using a2, by omega⟩
    · cases h
  · rintro ⟨h1, h2, h3⟩
    rw [if_neg (by omega)]
    have := (Fm.asked b q []).2 ⟨h1, by simpa using h2⟩
    rw [this]
theorem asked_err (b : Bytes) : (askedR b).2 = 0 ∨ askedR b = (noRq, 2) ∨ askedR b = (noRq, 301) := by
  unfold askedR
  split
  · exact .inr (.inl rfl)
  split
  · exact .inl rfl
  · exact .inr (.inr rfl)
/-- What is written is read back. -/
theorem ask_asked {q : Rq} (hr : rngQ q) (h : (askR q).2 = 0) : askedR (askR q).1 = (q, 0) ∧ (askR q).1.length ≤ 65528 := by
  obtain ⟨h1, h2⟩ := (ask_ok hr).1 h
  rw [ask_val h]
  exact ⟨asked_ok.2 ⟨h1, rfl, h2⟩, h2⟩
theorem okQ_rng {q : Rq} (h : okQ q) : rngQ q := by
  obtain ⟨h1, h2, h3, h4⟩ := h
  rw [emp4] at h4
  obtain ⟨e0, e1, e2, e3⟩ := h4
  have s : short [] := by unfold short; simp
  refine ⟨h2, ?_, ?_, ?_, ?_⟩
  · by_cases hi : 0 ∈ spk q.k
    · exact h3 0 hi
    · rw [e0 hi]; exact s
  · by_cases hi : 1 ∈ spk q.k
    · exact h3 1 hi
    · rw [e1 hi]; exact s
  · by_cases hi : 2 ∈ spk q.k
    · exact h3 2 hi
    · rw [e2 hi]; simp
  · by_cases hi : 3 ∈ spk q.k
    · exact ⟨(h3 3 hi).1, fun e he => ((h3 3 hi).2 e he).2⟩
    · rw [e3 hi]; simp
/-- What is read is written so. -/
theorem asked_ask {b : Bytes} (h : (askedR b).2 = 0) : askR (askedR b).1 = (b, 0) := by
  have h0 : askedR b = ((askedR b).1, 0) := by rw [← h]
  obtain ⟨h1, h2, h3⟩ := asked_ok.1 h0
  have h4 := (ask_ok (okQ_rng h1)).2 ⟨h1, by rw [← h2]; exact h3⟩
  have h5 := ask_val h4
  rw [← h2] at h5
  exact Prod.ext h5 h4
/-! ### Replies -/
structure Hi where
  q : Bytes
  row : List Val
deriving DecidableEq
structure Rp where
  id : Nat
  note : Bool
  err : Int
  at_ : Int
  errs : List Int
  hits : List Hi
  names : List Bytes
  rows : List (List Val)
  since : Int
  open_ : Int
  nodes : Int
  over : Bool
deriving DecidableEq
abbrev noRp : Rp := ⟨0, false, 0, 0, [], [], [], [], 0, 0, 0, false⟩
noncomputable def hitO : Po Hi := bindO texO fun q => bindO (lisO valO) fun r => retO ⟨q, r⟩
def putHi (x : Hi) : Bytes := putS x.q ++ putL encV x.row
def okRow (r : List Val) : Prop := r.length < 9223372036854775808 ∧ ∀ v ∈ r, okV v
def okHi (x : Hi) : Prop := short x.q ∧ okRow x.row
theorem Fm.row : Fm (lisO valO) (putL encV) okRow := Fm.lis Fm.val fun v _ => encV_pos v
theorem Fm.hit : Fm hitO putHi okHi := by
  have k := Fm.bind (fun x : Hi => x.q) Fm.tex (g := fun q => bindO (lisO valO) fun r => retO (⟨q, r⟩ : Hi)) (q := fun _ x => putL encV x.row) (Q := fun q x => okRow x.row ∧ x = ⟨q, x.row⟩) (fun q _ => ?_) (fun q x _ h => by rw [h.2])
  · refine k.congr (fun x => ?_) (fun x _ => rfl)
    unfold okHi
    constructor
    · rintro ⟨h1, h2, _⟩; exact ⟨h1, h2⟩
    · rintro ⟨h1, h2⟩; exact ⟨h1, h2, rfl⟩
  · exact (Fm.bind (fun x : Hi => x.row) Fm.row (g := fun r => retO (⟨q, r⟩ : Hi)) (fun r _ => Fm.ret _) (fun r x _ h => by rw [h])).congr (fun x => Iff.rfl) (fun x _ => by simp)
noncomputable def toldO : Po Rp := bindO truO fun note => bindO idO fun id => bindO numO fun err => bindO numO fun at_ => bindO (lisO numO) fun errs => bindO (lisO hitO) fun hits => bindO (lisO texO) fun names => bindO (lisO (lisO valO)) fun rows =>
  bindO numO fun since => bindO numO fun open_ => bindO numO fun nodes => bindO truO fun over => retO ⟨id, note, err, at_, errs, hits, names, rows, since, open_, nodes, over⟩
def putP (p : Rp) : Bytes := truB p.note ++ (be4 p.id ++ (putN p.err ++ (putN p.at_ ++ (putL putN p.errs ++ (putL putHi p.hits ++ (putL putS p.names ++ (putL (putL encV) p.rows ++ (putN p.since ++ (putN p.open_ ++ (putN p.nodes ++ truB p.over))))))))))
structure okP (p : Rp) : Prop where
  id : p.id < 4294967296
  err : rng64 p.err
  at_ : rng64 p.at_
  errs : p.errs.length < 9223372036854775808 ∧ ∀ n ∈ p.errs, rng64 n
  hits : p.hits.length < 9223372036854775808 ∧ ∀ x ∈ p.hits, okHi x
  names : p.names.length < 9223372036854775808 ∧ ∀ x ∈ p.names, short x
  rows : p.rows.length < 9223372036854775808 ∧ ∀ x ∈ p.rows, okRow x
  since : rng64 p.since
  open_ : rng64 p.open_
  nodes : rng64 p.nodes
theorem Fm.errs : Fm (lisO numO) (putL putN) (fun xs => xs.length < 9223372036854775808 ∧ ∀ x ∈ xs, rng64 x) := Fm.lis Fm.num fun n _ => putN_pos n
theorem Fm.hits : Fm (lisO hitO) (putL putHi) (fun xs => xs.length < 9223372036854775808 ∧ ∀ x ∈ xs, okHi x) := Fm.lis Fm.hit fun x _ => by
  have := putS_pos x.q
  unfold putHi; rw [List.length_append]; omega
theorem Fm.names : Fm (lisO texO) (putL putS) (fun xs => xs.length < 9223372036854775808 ∧ ∀ x ∈ xs, short x) := Fm.lis Fm.tex fun s _ => putS_pos s
theorem Fm.rows : Fm (lisO (lisO valO)) (putL (putL encV)) (fun xs => xs.length < 9223372036854775808 ∧ ∀ x ∈ xs, okRow x) := Fm.lis Fm.row fun s _ => putL_pos _ s
theorem Fm.told : Fm toldO putP okP := fun b p r => by
  unfold toldO
  constructor
  · intro h
    obtain ⟨x1, r1, h1, g1⟩ := bindO_some.1 h
    clear h
    obtain ⟨_, rfl⟩ := (Fm.tru _ _ _).1 h1
    obtain ⟨x2, r2, h2, g2⟩ := bindO_some.1 g1
    clear g1
    obtain ⟨a2, rfl⟩ := (Fm.id _ _ _).1 h2
    obtain ⟨x3, r3, h3, g3⟩ := bindO_some.1 g2
    clear g2
    obtain ⟨a3, rfl⟩ := (Fm.num _ _ _).1 h3
    obtain ⟨x4, r4, h4, g4⟩ := bindO_some.1 g3
    clear g3
    obtain ⟨a4, rfl⟩ := (Fm.num _ _ _).1 h4
    obtain ⟨x5, r5, h5, g5⟩ := bindO_some.1 g4
    clear g4
    obtain ⟨a5, rfl⟩ := (Fm.errs _ _ _).1 h5
    obtain ⟨x6, r6, h6, g6⟩ := bindO_some.1 g5
    clear g5
    obtain ⟨a6, rfl⟩ := (Fm.hits _ _ _).1 h6
    obtain ⟨x7, r7, h7, g7⟩ := bindO_some.1 g6
    clear g6
    obtain ⟨a7, rfl⟩ := (Fm.names _ _ _).1 h7
    obtain ⟨x8, r8, h8, g8⟩ := bindO_some.1 g7
    clear g7
    obtain ⟨a8, rfl⟩ := (Fm.rows _ _ _).1 h8
    obtain ⟨x9, r9, h9, g9⟩ := bindO_some.1 g8
    clear g8
    obtain ⟨a9, rfl⟩ := (Fm.num _ _ _).1 h9
    obtain ⟨x10, r10, h10, g10⟩ := bindO_some.1 g9
    clear g9
    obtain ⟨a10, rfl⟩ := (Fm.num _ _ _).1 h10
    obtain ⟨x11, r11, h11, g11⟩ := bindO_some.1 g10
    clear g10
    obtain ⟨a11, rfl⟩ := (Fm.num _ _ _).1 h11
    obtain ⟨x12, r12, h12, g12⟩ := bindO_some.1 g11
    clear g11
    obtain ⟨_, rfl⟩ := (Fm.tru _ _ _).1 h12
    cases g12
    exact ⟨⟨a2, a3, a4, a5, a6, a7, a8, a9, a10, a11⟩, by simp only [putP, List.append_assoc]⟩
  · rintro ⟨k, rfl⟩
    simp only [putP, List.append_assoc]
    exact bindO_some.2 ⟨_, _, (Fm.tru _ _ _).2 ⟨trivial, rfl⟩, bindO_some.2 ⟨_, _, (Fm.id _ _ _).2 ⟨k.id, rfl⟩, bindO_some.2 ⟨_, _, (Fm.num _ _ _).2 ⟨k.err, rfl⟩, bindO_some.2 ⟨_, _, (Fm.num _ _ _).2 ⟨k.at_, rfl⟩,
      bindO_some.2 ⟨_, _, (Fm.errs _ _ _).2 ⟨k.errs, rfl⟩, bindO_some.2 ⟨_, _, (Fm.hits _ _ _).2 ⟨k.hits, rfl⟩, bindO_some.2 ⟨_, _, (Fm.names _ _ _).2 ⟨k.names, rfl⟩, bindO_some.2 ⟨_, _, (Fm.rows _ _ _).2 ⟨k.rows, rfl⟩,
      bindO_some.2 ⟨_, _, (Fm.num _ _ _).2 ⟨k.since, rfl⟩, bindO_some.2 ⟨_, _, (Fm.num _ _ _).2 ⟨k.open_, rfl⟩, bindO_some.2 ⟨_, _, (Fm.num _ _ _).2 ⟨k.nodes, rfl⟩, bindO_some.2 ⟨_, _, (Fm.tru _ _ _).2 ⟨trivial, rfl⟩, rfl⟩⟩⟩⟩⟩⟩⟩⟩⟩⟩⟩⟩
/-- What Told answers. -/
noncomputable def toldR (b : Bytes) : Rp × Int := if 65528 < b.length then (noRp, 2) else match toldO b with
  | some (p, []) => (p, 0)
  | _ => (noRp, 301)
/-- A value's bytes, whatever it is. -/
def encW (v : Val) : Bytes := UInt8.ofNat (v.k % 256).toNat :: (if v.k = 1 then putN v.n else if v.k = 2 then putS v.s else truB v.b)
theorem encW_ok {v : Val} (h : validV v = true) : encW v = encV v := by
  rcases valid_mk h with ⟨e, _⟩ | ⟨e, _, _⟩ | ⟨e, _⟩
  · unfold encW encV; rw [e]; rfl
  · unfold encW encV; rw [e]; rfl
  · unfold encW encV; rw [e]; rfl
def putHW (x : Hi) : Bytes := putS x.q ++ putL encW x.row
def putW (p : Rp) : Bytes := truB p.note ++ (be4 p.id ++ (putN p.err ++ (putN p.at_ ++ (putL putN p.errs ++ (putL putHW p.hits ++ (putL putS p.names ++ (putL (putL encW) p.rows ++ (putN p.since ++ (putN p.open_ ++ (putN p.nodes ++ truB p.over))))))))))
def soundP (p : Rp) : Bool := (p.hits.all fun x => x.row.all validV) && p.rows.all fun r => r.all validV
/-- What Tell answers. -/
def tellR (p : Rp) : Bytes × Int := if soundP p = false then ([], 12) else if 65528 < (putW p).length then ([], 2) else (putW p, 0)
theorem flat_congr {α β : Type} {f g : α → List β} : ∀ {xs : List α}, (∀ x ∈ xs, f x = g x) → xs.flatMap f = xs.flatMap g
  | [], _ => rfl
  | x :: xs, h => by rw [List.flatMap_cons, List.flatMap_cons, h x (by simp), flat_congr fun y hy => h y (by simp [hy])]
theorem rowW {r : List Val} (h : r.all validV = true) : putL encW r = putL encV r := by
  unfold putL
  rw [flat_congr fun v hv => encW_ok (List.all_eq_true.1 h v hv)]
theorem putW_ok {p : Rp} (h : soundP p = true) : putW p = putP p := by
  unfold soundP at h
  simp only [Bool.and_eq_true] at h
  have e1 : putL putHW p.hits = putL putHi p.hits := by
    unfold putL
    rw [flat_congr fun x hx => show putHW x = putHi x by
      unfold putHW putHi
      rw [rowW (List.all_eq_true.1 h.1 x hx)]]
  have e2 : putL (putL encW) p.rows = putL (putL encV) p.rows := by
    show putN _ ++ _ = putN _ ++ _
    rw [flat_congr fun x hx => rowW (List.all_eq_true.1 h.2 x hx)]
  unfold putW putP
  rw [e1, e2]
structure rngP (p : Rp) : Prop where
  id : p.id < 4294967296
  err : rng64 p.err
  at_ : rng64 p.at_
  errs : p.errs.length < 9223372036854775808 ∧ ∀ n ∈ p.errs, rng64 n
  hits : p.hits.length < 9223372036854775808 ∧ ∀ x ∈ p.hits, short x.q ∧ x.row.length < 9223372036854775808 ∧ ∀ v ∈ x.row, rngV v
  names : p.names.length < 9223372036854775808 ∧ ∀ x ∈ p.names, short x
  rows : p.rows.length < 9223372036854775808 ∧ ∀ x ∈ p.rows, x.length < 9223372036854775808 ∧ ∀ v ∈ x, rngV v
  since : rng64 p.since
  open_ : rng64 p.open_
  nodes : rng64 p.nodes
theorem okP_iff {p : Rp} : okP p ↔ rngP p ∧ soundP p = true := by
  unfold soundP
  rw [Bool.and_eq_true, List.all_eq_true, List.all_eq_true]
  constructor
  · intro k
    refine ⟨⟨k.id, k.err, k.at_, k.errs, ⟨k.hits.1, fun x hx => ⟨(k.hits.2 x hx).1, (k.hits.2 x hx).2.1, fun v hv => ((k.hits.2 x hx).2.2 v hv).2⟩⟩, k.names, ⟨k.rows.1, fun x hx => ⟨(k.rows.2 x hx).1, fun v hv => ((k.rows.2 x hx).2 v hv).2⟩⟩, k.since, k.open_, k.nodes⟩,
      fun x hx => List.all_eq_true.2 fun v hv => ((k.hits.2 x hx).2.2 v hv).1, fun x hx => List.all_eq_true.2 fun v hv => ((k.rows.2 x hx).2 v hv).1⟩
  · rintro ⟨k, h1, h2⟩
    exact ⟨k.id, k.err, k.at_, k.errs, ⟨k.hits.1, fun x hx => ⟨(k.hits.2 x hx).1, (k.hits.2 x hx).2.1, fun v hv => ⟨List.all_eq_true.1 (h1 x hx) v hv, (k.hits.2 x hx).2.2 v hv⟩⟩⟩, k.names, ⟨k.rows.1, fun x hx => ⟨(k.rows.2 x hx).1, fun v hv => ⟨List.all_eq_true.1 (h2 x hx) v hv, (k.rows.2 x hx).2 v hv⟩⟩⟩, k.since, k.open_, k.nodes⟩
theorem told_ok {b : Bytes} {p : Rp} : toldR b = (p, 0) ↔ okP p ∧ b = putP p ∧ b.length ≤ 65528 := by
  unfold toldR
  constructor
  · intro h
    split at h
    · cases h
    rename_i h1
    split at h
    · rename_i q' hq
      cases h
      obtain ⟨a1, a2⟩ := (Fm.told _ _ _).1 hq
      exact ⟨a1, by simpa using a2, by omega⟩
    · cases h
  · rintro ⟨h1, h2, h3⟩
    rw [if_neg (by omega)]
    have := (Fm.told b p []).2 ⟨h1, by simpa using h2⟩
    rw [this]
theorem told_err (b : Bytes) : (toldR b).2 = 0 ∨ toldR b = (noRp, 2) ∨ toldR b = (noRp, 301) := by
  unfold toldR
  split
  · exact .inr (.inl rfl)
  split
  · exact .inl rfl
  · exact .inr (.inr rfl)
theorem tell_ok {p : Rp} (hr : rngP p) (h : (tellR p).2 = 0) : okP p ∧ (putP p).length ≤ 65528 ∧ (tellR p).1 = putP p := by
  unfold tellR at h ⊢
  split at h
  · cases h
  rename_i h1
  have h1 : soundP p = true := by simpa using h1
  rw [if_neg (by simp [h1])]
  split at h
  · cases h
  rename_i h2
  rw [if_neg h2]
  rw [putW_ok h1] at h2 ⊢
  exact ⟨okP_iff.2 ⟨hr, h1⟩, by omega, rfl⟩
theorem tell_told {p : Rp} (hr : rngP p) (h : (tellR p).2 = 0) : toldR (tellR p).1 = (p, 0) ∧ (tellR p).1.length ≤ 65528 := by
  obtain ⟨h1, h2, h3⟩ := tell_ok hr h
  rw [h3]
  exact ⟨told_ok.2 ⟨h1, rfl, h2⟩, h2⟩
theorem told_tell {b : Bytes} (h : (toldR b).2 = 0) : tellR (toldR b).1 = (b, 0) := by
  have h0 : toldR b = ((toldR b).1, 0) := by rw [← h]
  obtain ⟨h1, h2, h3⟩ := told_ok.1 h0
  have h4 := (okP_iff.1 h1).2
  unfold tellR
  rw [if_neg (by simp [h4]), putW_ok h4, ← h2, if_neg (by omega)]
end Go.Proofs.YtgdgebmlcgohhaaGreatDoor.F
/-! ## Package proto: the program's reader: bytes, numbers, texts, truths. -/
namespace Go.Proofs.YtgdgebmlcgohhaaGreatDoor.F
open Go Go.VC Go.Proofs
set_option linter.unusedSimpArgs false
set_option linter.unusedVariables false
set_option maxRecDepth 100000
attribute [local irreducible] CallsH RunsTo PureTo

section
variable {α β : Type}
/-- What a step of a reader does: after a fault nothing that counts, else what the plain reader says. -/
def StepO (f : Po α) (bs : Bytes) (bad : Bool) (x : α) (bs' : Bytes) (bad' : Bool) : Prop :=
  (bad = true ∧ bad' = true) ∨ (bad = false ∧ bad' = false ∧ f bs = some (x, bs')) ∨ (bad = false ∧ bad' = true ∧ f bs = none)
variable {f : Po α} {g : α → Po β} {bs bs1 bs2 : Bytes} {bad bad1 bad2 : Bool} {x x' : α} {y : β}
theorem StepO.bind (h1 : StepO f bs bad x bs1 bad1) (h2 : StepO (g x) bs1 bad1 y bs2 bad2) : StepO (bindO f g) bs bad y bs2 bad2 := by
  rcases h1 with ⟨a1, a2⟩ | ⟨a1, a2, a3⟩ | ⟨a1, a2, a3⟩
  · rcases h2 with ⟨b1, b2⟩ | ⟨b1, _⟩ | ⟨b1, _⟩
    · exact .inl ⟨a1, b2⟩
    · rw [a2] at b1; cases b1
    · rw [a2] at b1; cases b1
  · rcases h2 with ⟨b1, b2⟩ | ⟨b1, b2, b3⟩ | ⟨b1, b2, b3⟩
    · rw [a2] at b1; cases b1
    · exact .inr (.inl ⟨a1, b2, bindO_some.2 ⟨x, bs1, a3, b3⟩⟩)
    · exact .inr (.inr ⟨a1, b2, by unfold bindO; rw [a3]; exact b3⟩)
  · rcases h2 with ⟨b1, b2⟩ | ⟨b1, _⟩ | ⟨b1, _⟩
    · exact .inr (.inr ⟨a1, b2, by unfold bindO; rw [a3]⟩)
    · rw [a2] at b1; cases b1
    · rw [a2] at b1; cases b1
theorem StepO.ret (x : α) : StepO (retO x) bs bad x bs bad := by
  cases bad
  · exact .inr (.inl ⟨rfl, rfl, rfl⟩)
  · exact .inl ⟨rfl, rfl⟩
theorem StepO.fail (h : bad = false → f bs = none) : StepO f bs bad x bs1 true := by
  cases bad
  · exact .inr (.inr ⟨rfl, rfl, h rfl⟩)
  · exact .inl ⟨rfl, rfl⟩
theorem StepO.spoilt : StepO f bs true x bs1 true := .inl ⟨rfl, rfl⟩
theorem StepO.ok (h : f bs = some (x, bs1)) : StepO f bs false x bs1 false := .inr (.inl ⟨rfl, rfl, h⟩)
theorem StepO.junk (h : StepO f bs bad x bs1 true) : StepO f bs bad x' bs2 true := by
  rcases h with h | ⟨_, h, _⟩ | ⟨h1, _, h2⟩
  · exact .inl h
  · cases h
  · exact .inr (.inr ⟨h1, rfl, h2⟩)
theorem StepO.snoc {j : Nat} {xs : List α} (h1 : StepO (repO f j) bs bad xs bs1 bad1) (h2 : StepO f bs1 bad1 x bs2 bad2) : StepO (repO f (j + 1)) bs bad (xs ++ [x]) bs2 bad2 := by
  rw [repO_snoc]
  exact h1.bind (h2.bind (StepO.ret _))
theorem repO_none {n : Nat} : ∀ {j : Nat}, j ≤ n → repO f j bs = none → repO f n bs = none := by
  intro j hj h
  induction n with
  | zero =>
    have : j = 0 := by omega
    subst this; exact h
  | succ n ih =>
    by_cases hjn : j = n + 1
    · subst hjn; exact h
    · rw [repO_snoc]
      unfold bindO
      rw [ih (by omega)]
theorem many_fin {n : Int} {xs : List α} (hb2 : bad1 = (bad || decide (n < 0) || decide (n > (bs.length : Int)))) (hs : StepO (repO f xs.length) bs bad1 xs bs2 bad2) (hx : bad1 = false → xs.length ≤ n.toNat) (hend : bad2 = true ∨ n ≤ xs.length) : StepO (manyO f n) bs bad xs bs2 bad2 := by
  cases bad
  rotate_left
  · simp at hb2
    rcases hs with ⟨_, h⟩ | ⟨h, _⟩ | ⟨h, _⟩
    · exact .inl ⟨rfl, h⟩
    · rw [hb2] at h; cases h
    · rw [hb2] at h; cases h
  cases hb1 : bad1
  · rw [hb1] at hb2 hs
    simp only [Bool.false_or, Bool.false_eq, Bool.or_eq_false_iff, decide_eq_false_iff_not] at hb2
    have hx := hx hb1
    have e : manyO f n bs = repO f n.toNat bs := if_pos (by omega)
    rcases hs with ⟨h, _⟩ | ⟨_, h2, h3⟩ | ⟨_, h2, h3⟩
    · cases h
    · rw [h2] at hend
      have : xs.length = n.toNat := by
        rcases hend with h | h
        · cases h
        · omega
      exact .inr (.inl ⟨rfl, h2, by rw [e, ← this]; exact h3⟩)
    · exact .inr (.inr ⟨rfl, h2, by rw [e]; exact repO_none hx h3⟩)
  · rw [hb1] at hb2 hs
    have e : manyO f n bs = none := by
      refine if_neg fun h => ?_
      simp only [Bool.false_or, Bool.true_eq, Bool.or_eq_true, decide_eq_true_eq] at hb2
      omega
    rcases hs with ⟨_, h⟩ | ⟨h, _⟩ | ⟨h, _⟩
    · exact .inr (.inr ⟨rfl, h, e⟩)
    · cases h
    · cases h
end
/-! ### The reader in memory -/
variable {S F G : Nat → Prop} {h0 h h1 : Heap} {L R L' : List A} {a b a1 a2 : Option Addr} {l c l1 c1 l2 c2 p t : Nat} {bs cs bs1 bs2 : List UInt8} {bad bad1 bad2 : Bool} {v : Val}
abbrev RP (t p : Nat) (a : Option Addr) (l c : Nat) (bad : Bool) : A := A.blk p #[.slice a l c, .bool bad] t
/-- What every call of a reader asks. -/
structure RdP (F : Nat → Prop) (h : Heap) (a : Option Addr) (l c : Nat) (bs : Bytes) : Prop where
  ro : Ro F h a (bytesV bs)
  len : bs.length = l
  lc : l ≤ c
  big : l ≤ 1099511627776
/-- Bytes of which others are the end. -/
structure Nxt (a : Option Addr) (l c : Nat) (bs : Bytes) (a1 : Option Addr) (l1 c1 : Nat) (bs1 : Bytes) : Prop where
  ro : ∀ F h, Ro F h a (bytesV bs) → Ro F h a1 (bytesV bs1)
  len : bs.length = l → bs1.length = l1
  lc : l ≤ c → l1 ≤ c1
  le : l1 ≤ l
theorem Nxt.refl : Nxt a l c bs a l c bs := ⟨fun _ _ k => k, id, id, Nat.le_refl _⟩
theorem Nxt.trans (k : Nxt a l c bs a1 l1 c1 bs1) (q : Nxt a1 l1 c1 bs1 a2 l2 c2 bs2) : Nxt a l c bs a2 l2 c2 bs2 := ⟨fun F h r => q.ro F h (k.ro F h r), fun e => q.len (k.len e), fun e => q.lc (k.lc e), Nat.le_trans q.le k.le⟩
theorem RdP.nxt (r : RdP F h a l c bs) (k : Nxt a l c bs a1 l1 c1 bs1) : RdP F h a1 l1 c1 bs1 := ⟨k.ro _ _ r.ro, k.len r.len, k.lc r.lc, Nat.le_trans k.le r.big⟩
theorem RdP.at (k : RdP S h0 a l c bs) (m : Mod S h0 h) (hf : ∀ b, F b → S b ∨ h0.size ≤ b) : RdP F h a l c bs := ⟨k.ro.at m hf, k.len, k.lc, k.big⟩
theorem RdP.in (k : RdP S h0 a l c bs) (s : St S h0 h L) : RdP none_ h a l c bs := ⟨k.ro.in s, k.len, k.lc, k.big⟩
/-- A part of bytes that others hold, wherever. -/
theorem cutA (hl : bs.length = l) {lo hi mx : Nat} {x y z : Int} (hx : x = lo) (hy : y = hi) (hz : z = mx) (h1 : lo ≤ hi) (h2 : hi ≤ l) (h3 : hi ≤ mx) (h4 : mx ≤ c) {K : Option Addr → Nat → Nat → Prop}
    (q : ∀ a', (∀ F h, Ro F h a (bytesV bs) → Ro F h a' (bytesV ((bs.take hi).drop lo))) → ((bs.take hi).drop lo).length = hi - lo → K a' (hi - lo) (mx - lo)) : VSlice 1 a c x y z K := by
  have hlen : ((bs.take hi).drop lo).length = hi - lo := by rw [List.length_drop, List.length_take]; omega
  refine ⟨lo, hi, mx, hx, hy, hz, h1, h3, h4, q _ (fun F h k => ?_) hlen⟩
  by_cases he : mx = lo
  · rw [if_pos he]
    have : (bs.take hi).drop lo = [] := List.eq_nil_of_length_eq_zero (by rw [hlen]; omega)
    rw [this]; exact .nil _ _ _
  · rw [if_neg he, Nat.mul_one]
    have := (k.take hi).drop lo
    have e : ((bytesV bs).take hi).drop lo = bytesV ((bs.take hi).drop lo) := by simp [bytesV, List.map_take, List.map_drop]
    rw [e] at this
    exact this
/-- Off the front of what waits. -/
theorem cutFront (hl : bs.length = l) {n : Nat} {x y z : Int} (hx : x = n) (hy : y = l) (hz : z = c) (h1 : n ≤ l) (hlc : l ≤ c) {K : Option Addr → Nat → Nat → Prop}
    (q : ∀ a', Nxt a l c bs a' (l - n) (c - n) (bs.drop n) → K a' (l - n) (c - n)) : VSlice 1 a c x y z K :=
  cutA hl hx hy hz h1 (Nat.le_refl _) hlc (Nat.le_refl _) fun a' r hlen => q a' (by
    rw [List.take_of_length_le (by omega)] at r
    exact ⟨r, fun _ => by rw [List.length_drop]; omega, fun _ => by omega, by omega⟩)
theorem bytesP_step {n : Int} (k0 : Holds [RP t p a l c bad] F h) (r : RdP F h a l c bs) : CallsH Tryz.prog 98 #[.pointer (some ⟨p, 0, none⟩), .int .i64 n] h
    (fun v h' => ∃ (x : Bytes) (b : Option Addr) (c2 : Nat) (a1 : Option Addr) (l1 c1 : Nat) (bs1 : Bytes) (bad1 : Bool), v = .slice b x.length c2 ∧ Nxt a l c bs a1 l1 c1 bs1 ∧ StepO (takeO n) bs bad x bs1 bad1 ∧ (∀ F h, Ro F h a (bytesV bs) → Ro F h b (bytesV x)) ∧ (bad1 = true → x = []) ∧ x.length ≤ c2 ∧ St F h h' [RP t p a1 l1 c1 bad1]) := by
  refine vf98 _ _ h _ ?_
  unfold F98
  have k := St.start k0
  have hlen := r.len
  have hlc := r.lc
  have hbig := r.big
  have bad0 : ∀ {h' : Heap}, (bad = false → takeO n bs = none) → St F h h' [RP t p a l c true] → ∃ (x : Bytes) (b : Option Addr) (c2 : Nat) (a1 : Option Addr) (l1 c1 : Nat) (bs1 : Bytes) (bad1 : Bool), (Value.slice none 0 0) = .slice b x.length c2 ∧ Nxt a l c bs a1 l1 c1 bs1 ∧ StepO (takeO n) bs bad x bs1 bad1 ∧ (∀ F h, Ro F h a (bytesV bs) → Ro F h b (bytesV x)) ∧ (bad1 = true → x = []) ∧ x.length ≤ c2 ∧ St F h h' [RP t p a1 l1 c1 bad1] :=
    fun hb k => ⟨[], none, 0, a, l, c, bs, true, rfl, .refl, .fail hb, fun _ _ _ => .nil _ _ _, fun _ => rfl, Nat.le_refl _, k⟩
  refine VSome.mk ⟨_, k.rd (by rfl), ?_⟩
  cases bad
  rotate_left
  · exact cond_true rfl (VSome.mk (k.vst (Nat.le_of_ble_eq_true (by rfl)) fun _ k => bad0 (fun h => by cases h) k))
  refine cond_false rfl (cond_split (fun hc => ?_) (fun hc => ?_))
  · have hn : n < 0 := of_decide_eq_true hc
    exact VSome.mk (k.vst (Nat.le_of_ble_eq_true (by rfl)) fun _ k => bad0 (fun _ => if_neg (by omega)) k)
  have hn : ¬ n < 0 := of_decide_eq_false hc
  refine VSome.mk ⟨_, _, _, k.rd (by rfl), cond_split (fun hc => ?_) (fun hc => ?_)⟩
  · have hn2 : n > (l : Int) := of_decide_eq_true hc
    exact VSome.mk (k.vst (Nat.le_of_ble_eq_true (by rfl)) fun _ k => bad0 (fun _ => if_neg (by omega)) k)
  have hn2 : ¬ n > (l : Int) := of_decide_eq_false hc
  obtain ⟨m, rfl⟩ : ∃ m : Nat, n = m := ⟨n.toNat, by omega⟩
  refine VSome.mk ⟨_, _, _, k.rd (by rfl), ?_⟩
  refine cutA hlen (lo := 0) (hi := m) (mx := c) rfl rfl rfl (by omega) (by omega) (by omega) (Nat.le_refl _) fun b rb hb => ?_
  refine VSome.mk ⟨_, _, _, k.rd (by rfl), ?_⟩
  refine cutFront hlen (n := m) rfl rfl rfl (by omega) hlc fun a1 nx => VSome.mk (k.vst (Nat.le_of_ble_eq_true (by rfl)) fun h18 k => ?_)
  rw [List.drop_zero] at rb hb
  refine ⟨bs.take m, b, c - 0, a1, l - m, c - m, bs.drop m, false, by rw [hb], nx, .ok ?_, rb, (fun h => by cases h), by omega, k⟩
  show (if 0 ≤ (m : Int) ∧ (m : Int) ≤ bs.length then _ else _) = _
  rw [if_pos (by omega), Int.toNat_natCast]
theorem oneP_step (k0 : Holds [RP t p a l c bad] F h) (r : RdP F h a l c bs) : CallsH Tryz.prog 43 #[.pointer (some ⟨p, 0, none⟩)] h
    (fun v h' => ∃ (x : UInt8) (a1 : Option Addr) (l1 c1 : Nat) (bs1 : Bytes) (bad1 : Bool), v = .int .u8 (x.toNat : Int) ∧ Nxt a l c bs a1 l1 c1 bs1 ∧ StepO oneO bs bad x bs1 bad1 ∧ (bad1 = true → x = 0) ∧ St F h h' [RP t p a1 l1 c1 bad1]) := by
  refine vf43 _ h _ ?_
  unfold F43
  refine CallsH.mono (bytesP_step (n := 1) k0 r) ?_
  rintro _ h2 ⟨x, b, c2, a1, l1, c1, bs1, bad1, rfl, nx, st, rb, hz, _, k⟩
  refine ⟨_, _, _, rfl, ?_⟩
  cases bad1
  · have hbad : bad = false := by
      rcases st with ⟨_, h⟩ | ⟨h, _⟩ | ⟨h, _⟩
      · cases h
      · exact h
      · exact h
    have ht : takeO 1 bs = some (x, bs1) := by
      rcases st with ⟨_, h⟩ | ⟨_, _, h⟩ | ⟨_, h, _⟩
      · cases h
      · exact h
      · cases h
    cases bs with
    | nil => cases ht
    | cons y bs0 =>
      have h1 : takeO 1 (y :: bs0) = some ([y], bs0) := by
        show (if 0 ≤ (1 : Int) ∧ (1 : Int) ≤ ((y :: bs0).length : Nat) then _ else _) = _
        rw [if_pos (by rw [List.length_cons]; omega)]; rfl
      rw [h1] at ht
      cases ht
      refine cond_true (by rfl) ?_
      have hs : Sl h2 b (bytesV [y]) := ((rb _ _ r.ro).mod k.ext).sl
      refine hs.one (f := byteV) (xs := [y]) rfl (by omega) (by simp) fun ad z hz hcz => ⟨_, hcz, ?_⟩
      cases hz
      subst hbad
      exact ⟨y, a1, l1, c1, bs1, false, rfl, nx, .ok rfl, (fun h => by cases h), k⟩
  · have hx := hz rfl
    subst hx
    refine cond_false (by rfl) ⟨0, a1, l1, c1, bs1, true, rfl, nx, .fail fun hb => ?_, fun _ => rfl, k⟩
    rcases st with ⟨h, _⟩ | ⟨_, h, _⟩ | ⟨_, _, h⟩
    · rw [hb] at h; cases h
    · cases h
    · cases bs with
      | nil => rfl
      | cons y bs0 =>
        exfalso
        have h1 : takeO 1 (y :: bs0) = some ([y], bs0) := by
          show (if 0 ≤ (1 : Int) ∧ (1 : Int) ≤ ((y :: bs0).length : Nat) then _ else _) = _
          rw [if_pos (by rw [List.length_cons]; omega)]; rfl
        rw [h1] at h; cases h
theorem idP_step (k0 : Holds [RP t p a l c bad] F h) (r : RdP F h a l c bs) : CallsH Tryz.prog 44 #[.pointer (some ⟨p, 0, none⟩)] h
    (fun v h' => ∃ (x : Nat) (a1 : Option Addr) (l1 c1 : Nat) (bs1 : Bytes) (bad1 : Bool), v = .int .u32 (x : Int) ∧ Nxt a l c bs a1 l1 c1 bs1 ∧ StepO idO bs bad x bs1 bad1 ∧ x < 4294967296 ∧ St F h h' [RP t p a1 l1 c1 bad1]) := by
  refine vf44 _ h _ ?_
  unfold F44
  refine CallsH.mono (bytesP_step (n := 4) k0 r) ?_
  rintro _ h2 ⟨x, b, c2, a1, l1, c1, bs1, bad1, rfl, nx, st, rb, hz, _, k⟩
  refine ⟨_, _, _, rfl, ?_⟩
  have t4 : ∀ (y0 y1 y2 y3 : UInt8) (s : Bytes), takeO 4 (y0 :: y1 :: y2 :: y3 :: s) = some ([y0, y1, y2, y3], s) := fun y0 y1 y2 y3 s => by
    show (if 0 ≤ (4 : Int) ∧ (4 : Int) ≤ ((y0 :: y1 :: y2 :: y3 :: s).length : Nat) then _ else _) = _
    rw [if_pos (by simp only [List.length_cons]; omega)]; rfl
  have t0 : ∀ (s : Bytes), s.length < 4 → takeO 4 s = none ∧ idO s = none := fun s hs => by
    refine ⟨if_neg (by omega), ?_⟩
    match s, hs with
    | [], _ => rfl
    | [_], _ => rfl
    | [_, _], _ => rfl
    | [_, _, _], _ => rfl
    | _ :: _ :: _ :: _ :: _, hs => simp only [List.length_cons] at hs; omega
  have hsplit : bs.length < 4 ∨ ∃ y0 y1 y2 y3 s, bs = y0 :: y1 :: y2 :: y3 :: s := by
    match bs with
    | [] => exact .inl (by simp)
    | [_] => exact .inl (by simp)
    | [_, _] => exact .inl (by simp)
    | [_, _, _] => exact .inl (by simp)
    | y0 :: y1 :: y2 :: y3 :: s => exact .inr ⟨y0, y1, y2, y3, s, rfl⟩
  cases bad1
  · have hbad : bad = false := by
      rcases st with ⟨_, h⟩ | ⟨h, _⟩ | ⟨h, _⟩
      · cases h
      · exact h
      · exact h
    have ht : takeO 4 bs = some (x, bs1) := by
      rcases st with ⟨_, h⟩ | ⟨_, _, h⟩ | ⟨_, h, _⟩
      · cases h
      · exact h
      · cases h
    rcases hsplit with hs | ⟨y0, y1, y2, y3, s, rfl⟩
    · rw [(t0 _ hs).1] at ht; cases ht
    · rw [t4] at ht
      cases ht
      have hs : Sl h2 b (bytesV [y0, y1, y2, y3]) := ((rb _ _ r.ro).mod k.ext).sl
      refine cond_true (by rfl) (CallsH.mono (fourth_spec (r := []) hs rfl (by simp)) ?_)
      rintro _ _ ⟨rfl, rfl⟩
      subst hbad
      exact ⟨_, rfl, un4 y0 y1 y2 y3, a1, l1, c1, bs1, false, rfl, nx, .ok rfl, un4_lt _ _ _ _, k⟩
  · have hx := hz rfl
    subst hx
    refine cond_false (by rfl) ⟨0, a1, l1, c1, bs1, true, rfl, nx, .fail fun hb => ?_, by omega, k⟩
    rcases st with ⟨h, _⟩ | ⟨_, h, _⟩ | ⟨_, _, h⟩
    · rw [hb] at h; cases h
    · cases h
    · rcases hsplit with hs | ⟨y0, y1, y2, y3, s, rfl⟩
      · exact (t0 _ hs).2
      · rw [t4] at h; cases h
theorem numP_step (k0 : Holds [RP t p a l c bad] F h) (r : RdP F h a l c bs) : CallsH Tryz.prog 48 #[.pointer (some ⟨p, 0, none⟩)] h
    (fun v h' => ∃ (x : Int) (a1 : Option Addr) (l1 c1 : Nat) (bs1 : Bytes) (bad1 : Bool), v = .int .i64 x ∧ Nxt a l c bs a1 l1 c1 bs1 ∧ StepO numO bs bad x bs1 bad1 ∧ rng64 x ∧ (bad1 = true → x = 0) ∧ St F h h' [RP t p a1 l1 c1 bad1]) := by
  refine vf48 _ h _ ?_
  unfold F48
  have k := St.start k0
  have hlen := r.len
  have hlc := r.lc
  have hbig := r.big
  have z64 : rng64 0 := ⟨by omega, by omega⟩
  refine VSome.mk ⟨_, k.rd (by rfl), ?_⟩
  cases bad
  rotate_left
  · exact cond_true rfl ⟨0, a, l, c, bs, true, rfl, .refl, StepO.spoilt, z64, fun _ => rfl, k⟩
  refine cond_false rfl <| VSome.mk ⟨_, _, _, k.rd (by rfl), ?_⟩
  refine CallsH.mono (int_spec r.ro.sl hlen (by omega)) ?_
  rintro _ _ ⟨rfl, rfl⟩
  cases hg : getN bs with
  | err e2 =>
    have he2 : e2 ≠ 0 := by have := getN_bad hg; omega
    refine ⟨_, _, _, rfl, cond_true (by simpa using he2) (VSome.mk (k.vst (Nat.le_of_ble_eq_true (by rfl)) fun h3 k => ⟨0, a, l, c, bs, true, rfl, .refl, .fail fun _ => ?_, z64, fun _ => rfl, k⟩))⟩
    unfold numO ofR
    rw [hg]
  | ok x n =>
    have hle := Form.num.le hg
    refine ⟨_, _, _, rfl, cond_false rfl (VSome.mk ⟨_, _, _, k.rd (by rfl), ?_⟩)⟩
    refine cutFront hlen (n := n) rfl rfl rfl (by omega) hlc fun a1 nx => VSome.mk (k.vst (Nat.le_of_ble_eq_true (by rfl)) fun h16 k => ⟨x, a1, _, _, _, false, rfl, nx, .ok ?_, (Form.num.pg _ _ _ hg).1, (fun h => by cases h), k⟩)
    unfold numO ofR
    rw [hg]
theorem texP_step (k0 : Holds [RP t p a l c bad] F h) (r : RdP F h a l c bs) : CallsH Tryz.prog 54 #[.pointer (some ⟨p, 0, none⟩)] h
    (fun v h' => ∃ (x : Bytes) (a1 : Option Addr) (l1 c1 : Nat) (bs1 : Bytes) (bad1 : Bool), v = .string (bA x) ∧ Nxt a l c bs a1 l1 c1 bs1 ∧ StepO texO bs bad x bs1 bad1 ∧ St F h h' [RP t p a1 l1 c1 bad1]) := by
  refine vf54 _ h _ ?_
  unfold F54
  refine CallsH.mono (numP_step k0 r) ?_
  rintro _ h2 ⟨n, a1, l1, c1, bs1, bad1, rfl, nx1, s1, _, _, k⟩
  refine ⟨_, rfl, ?_⟩
  obtain ⟨F', G, k1, kG, d, hF, back⟩ := k.frameA
  have r1 := (r.nxt nx1).at k.ext hF
  refine CallsH.mono (bytesP_step k1 r1) ?_
  rintro _ h5 ⟨x, b, c2, a2, l2, c2', bs2, bad2, rfl, nx2, s2, rb, hz, _, k2⟩
  have hs : Sl h5 b (bytesV x) := (rb _ _ (r1.ro.mod k2.ext)).sl
  have k := back k2
  refine ⟨_, _, _, rfl, bytes_text und30 (by kernel_rfl) und9 hs rfl ⟨_, rfl, x, a2, l2, c2', bs2, bad2, rfl, nx1.trans nx2, s1.bind s2, k⟩⟩
theorem truP_step (k0 : Holds [RP t p a l c bad] F h) (r : RdP F h a l c bs) : CallsH Tryz.prog 47 #[.pointer (some ⟨p, 0, none⟩)] h
    (fun v h' => ∃ (x : Bool) (a1 : Option Addr) (l1 c1 : Nat) (bs1 : Bytes) (bad1 : Bool), v = .bool x ∧ Nxt a l c bs a1 l1 c1 bs1 ∧ StepO truO bs bad x bs1 bad1 ∧ St F h h' [RP t p a1 l1 c1 bad1]) := by
  refine vf47 _ h _ ?_
  unfold F47
  refine CallsH.mono (oneP_step k0 r) ?_
  rintro _ h2 ⟨x, a1, l1, c1, bs1, bad1, rfl, nx1, s1, _, k⟩
  refine ⟨_, rfl, VSome.mk ⟨_, k.rd (by rfl), ?_⟩⟩
  have eb : ((x.toNat : Int) == 1) = decide (x.toNat = 1) := by rw [Bool.eq_iff_iff]; simp; omega
  rw [eb]
  cases bad1
  · refine cond_false rfl <| VSome.mk (k.vst (Nat.le_of_ble_eq_true (by rfl)) fun h9 k => ?_)
    by_cases hx : 1 < x.toNat
    · have e : decide ((x.toNat : Int) > 1) = true := decide_eq_true (by omega)
      rw [e] at k
      exact ⟨_, a1, l1, c1, bs1, true, rfl, nx1, s1.bind (.fail fun _ => by rw [if_pos hx]; rfl), k⟩
    · have e : decide ((x.toNat : Int) > 1) = false := decide_eq_false (by omega)
      rw [e] at k
      exact ⟨_, a1, l1, c1, bs1, false, rfl, nx1, s1.bind (.ok (by rw [if_neg hx]; rfl)), k⟩
  · exact cond_true rfl <| VSome.mk (k.vst (Nat.le_of_ble_eq_true (by rfl)) fun h7 k => ⟨_, a1, l1, c1, bs1, true, rfl, nx1, s1.bind .spoilt, k⟩)
end Go.Proofs.YtgdgebmlcgohhaaGreatDoor.F
/-! ## Package proto: the program's reader: values, events; lists in memory. -/
namespace Go.Proofs.YtgdgebmlcgohhaaGreatDoor.F
open Go Go.VC Go.Proofs
set_option linter.unusedSimpArgs false
set_option linter.unusedVariables false
set_option maxRecDepth 100000
attribute [local irreducible] CallsH RunsTo PureTo

/-! ### Lists that are held, each element with what it holds itself -/
structure El (α : Type) where
  σ : Type
  val : σ → α
  e : Nat
  sz : Nat
  cells : σ → List Value
  own : σ → A
  len : ∀ s, (cells s).length = sz
  one : ∀ s, ∀ v ∈ cells s, oneC v = true
  pos : 0 < sz
  rd : (Nat → Prop) → Heap → σ → Prop
  rdAt : ∀ {S F : Nat → Prop} {h0 h : Heap} {s : σ}, rd S h0 s → Mod S h0 h → (∀ b, F b → S b ∨ h0.size ≤ b) → rd F h s
  rdOwn : ∀ {S : Nat → Prop} {h0 h : Heap} {R : List A} {s : σ}, St S h0 h (own s :: R) → rd none_ h s
section
variable {α : Type} {E : El α} {S F G : Nat → Prop} {h0 h h1 : Heap} {R : List A} {a : Option Addr} {l c : Nat} {xs : List α}
def El.L (E : El α) (a : Option Addr) (l c : Nat) (xs : List α) : A :=
  A.ex fun ss : List E.σ => A.fact (ss.map E.val = xs) (A.all [A.vec E.e E.sz a l c (ss.flatMap E.cells), A.all (ss.map E.own)])
theorem El.open (k : St S h0 h (E.L a l c xs :: R)) : ∃ ss : List E.σ, ss.map E.val = xs ∧ St S h0 h (A.vec E.e E.sz a l c (ss.flatMap E.cells) :: A.all (ss.map E.own) :: R) := by
  obtain ⟨ss, k⟩ := St.opens k
  obtain ⟨he, k⟩ := k.facts
  exact ⟨ss, he, St.open (L := [A.vec E.e E.sz a l c (ss.flatMap E.cells), A.all (ss.map E.own)]) k⟩
theorem El.close {ss : List E.σ} (he : ss.map E.val = xs) (k : St S h0 h (A.vec E.e E.sz a l c (ss.flatMap E.cells) :: A.all (ss.map E.own) :: R)) : St S h0 h (E.L a l c xs :: R) :=
  St.closes (f := fun ss : List E.σ => A.fact (ss.map E.val = xs) (A.all [A.vec E.e E.sz a l c (ss.flatMap E.cells), A.all (ss.map E.own)])) (x := ss) (St.mkfact he (St.close (L := [A.vec E.e E.sz a l c (ss.flatMap E.cells), A.all (ss.map E.own)]) k))
theorem El.nil (E : El α) (k : St S h0 h R) : St S h0 h (E.L none 0 0 [] :: R) :=
  El.close (ss := []) rfl ((k.all0).vnil E.e (sz := E.sz) E.pos)
theorem El.length (k : St S h0 h (E.L a l c xs :: R)) : xs.length = l ∧ l ≤ c ∧ c < 9223372036854775808 := by
  obtain ⟨ss, he, k⟩ := El.open k
  obtain ⟨v, _, hc⟩ := St.vec (a := a) k
  have h1 := v.len
  rw [flatMap_len E.len] at h1
  have := Nat.eq_of_mul_eq_mul_right E.pos h1
  rw [← he, List.length_map]
  exact ⟨this, v.le, hc⟩
/-- One element more. -/
theorem El.app {P : Program} {t bt : Nat} {z : Value} (T : SlTy P t E.e E.sz bt z) {s : E.σ} {bb : Nat} (k : St S h0 h (A.blk bb (E.cells s).toArray E.e :: E.own s :: E.L a l c xs :: R)) (hb : (l + 1) * bt ≤ 140737488355328) {K : KV}
    (q : ∀ a' c' h', St S h0 h' (E.L a' (l + 1) c' (xs ++ [E.val s]) :: R) → K (.slice a' (l + 1) c') h') : RunsTo P (Builtin.append_ #[t, t] t #[.slice a l c, .slice (some ⟨bb, 0, none⟩) 1 1]) h K := by
  obtain ⟨ss, he, k⟩ := El.open k.pull2
  have hsl : Sl h (some ⟨bb, 0, none⟩) (E.cells s) := k.slB (b := bb)
  refine k.app T T.ut (by simp) (Src.slice hsl (by rw [E.len, Nat.one_mul])) (E.one s) hb fun a' c' h' k => q a' c' h' ?_
  have e1 : ss.flatMap E.cells ++ E.cells s = (ss ++ [s]).flatMap E.cells := by rw [List.flatMap_append]; simp
  rw [e1] at k
  refine El.close (ss := ss ++ [s]) (by rw [List.map_append, he]; rfl) ?_
  have k := k.pull3.pull2.pull1.allIn
  have k := k.allPerm (L' := (ss ++ [s]).map E.own) (by rw [List.map_append]; exact (List.perm_append_singleton _ _).symm)
  exact (k.pull2.drop).pull1
/-- Such a list, where others hold it, away from F. -/
def RoX (E : El α) (F : Nat → Prop) (h : Heap) (a : Option Addr) (l : Nat) (xs : List α) : Prop :=
  ∃ ss : List E.σ, Ro F h a (ss.flatMap E.cells) ∧ (∀ s ∈ ss, E.rd F h s) ∧ ss.map E.val = xs ∧ xs.length = l
theorem RoX.at (k : RoX E S h0 a l xs) (m : Mod S h0 h) (hf : ∀ b, F b → S b ∨ h0.size ≤ b) : RoX E F h a l xs := by
  obtain ⟨ss, q1, q2, q3, q4⟩ := k
  exact ⟨ss, q1.at m hf, fun s hs => E.rdAt (q2 s hs) m hf, q3, q4⟩
theorem RoX.in (k : RoX E S h0 a l xs) (s : St S h0 h R) : RoX E none_ h a l xs := k.at s.ext fun _ h => h.elim
theorem RoX.len (k : RoX E S h0 a l xs) : xs.length = l := by obtain ⟨_, _, _, _, e⟩ := k; exact e
theorem RoX.one {hh : Heap} (k : RoX E F h a l xs) (m : Mod F h hh) {i : Int} {K : Addr → Prop} (h0 : 0 ≤ i) (hi : i < l)
    (q : ∀ ad (s : E.σ), xs[i.toNat]? = some (E.val s) → (∀ r v, (E.cells s)[r]? = some v → cellH hh (addN ad r) = some v) → E.rd F h s → K ad) : VIdx a l i E.sz K := by
  obtain ⟨ss, q1, q2, q3, q4⟩ := k
  have hl : ss.length = l := by rw [← q4, ← q3, List.length_map]
  refine (q1.mod m).sl.row E.len E.pos hl h0 hi fun ad s hs hc => q ad s ?_ hc (q2 s (List.mem_of_getElem? hs))
  rw [← q3, List.getElem?_map, hs]; rfl
theorem El.all_rd {ss : List E.σ} {s : E.σ} (k : St S h0 h (A.all (ss.map E.own) :: R)) (hs : s ∈ ss) : E.rd none_ h s := by
  obtain ⟨s1, s2, rfl⟩ := List.append_of_mem hs
  have k := (St.allPerm k (L' := (s :: (s1 ++ s2)).map E.own) (List.perm_middle.map _)).allOut
  exact E.rdOwn k
theorem El.ro (k : St S h0 h (E.L a l c xs :: R)) : RoX E none_ h a l xs := by
  have hl := (El.length k).1
  obtain ⟨ss, he, k⟩ := El.open k
  exact ⟨ss, (k.sl (a := a)).ro, fun s hs => El.all_rd k.drop hs, he, hl⟩
end
abbrev none1 : A := A.all []
structure Se where
  a : Option Addr
  c : Nat
  e : Ev
def seV (s : Se) : List Value := [.string (bA s.e.t), .int .i64 s.e.tm, .slice s.a s.e.vs.length s.c]
structure Sr where
  a : Option Addr
  c : Nat
  vs : List Val
def srV (s : Sr) : List Value := [.slice s.a s.vs.length s.c]
structure Sx where
  a : Option Addr
  c : Nat
  x : Hi
def sxV (s : Sx) : List Value := [.string (bA s.x.q), .slice s.a s.x.row.length s.c]
abbrev texE : El Bytes := ⟨Bytes, id, 9, 1, fun s => [strV s], fun _ => none1, fun _ => rfl, fun s v hv => by simp at hv; subst hv; rfl, by omega, fun _ _ _ => True, fun _ _ _ => trivial, fun _ => trivial⟩
abbrev errE : El Int := ⟨Int, id, 38, 1, fun s => [.int .i64 s], fun _ => none1, fun _ => rfl, fun s v hv => by simp at hv; subst hv; rfl, by omega, fun _ _ _ => True, fun _ _ _ => trivial, fun _ => trivial⟩
abbrev valE : El Val := ⟨Val, id, 127, 4, valV, fun _ => none1, fun _ => rfl, oneC_val, by omega, fun _ _ _ => True, fun _ _ _ => trivial, fun _ => trivial⟩
variable {S F G : Nat → Prop} {h0 h h1 : Heap} {L R L' : List A} {a b a1 a2 : Option Addr} {l c l1 c1 l2 c2 p t : Nat} {bs cs bs1 bs2 : List UInt8} {bad bad1 bad2 : Bool} {v : Val}
theorem VV.toL {vs : List Val} (k : St S h0 h (VV a l c vs :: R)) : St S h0 h (valE.L a l c vs :: R) := by
  refine El.close (E := valE) (ss := vs) (by simp) ?_
  have e : A.all (vs.map valE.own) = A.all (List.replicate vs.length none1) := by rw [← List.map_const']
  rw [e]
  have q : ∀ n, St S h0 h (VV a l c vs :: A.all (List.replicate n none1) :: R) := fun n => by
    induction n with
    | zero => exact k.all0.pull1
    | succ n ih => exact ((ih.pull1.all0).allIn).pull1
  exact q _
theorem valE.toV {vs : List Val} (k : St S h0 h (valE.L a l c vs :: R)) : St S h0 h (VV a l c vs :: R) := by
  obtain ⟨ss, he, k2⟩ := El.open (E := valE) k
  have he : ss = vs := by simpa using he
  subst he
  exact k2.pull1.drop
abbrev evE : El Ev := ⟨Se, Se.e, 125, 3, seV, fun s => VV s.a s.e.vs.length s.c s.e.vs, fun _ => rfl, fun s v hv => by simp [seV] at hv; rcases hv with rfl | rfl | rfl <;> rfl, by omega,
  fun F h s => Ro F h s.a (s.e.vs.flatMap valV), fun r m hf => r.at m hf, fun {_ _ _ _ s} k => (k.sl (a := s.a)).ro⟩
abbrev rowE : El (List Val) := ⟨Sr, Sr.vs, 112, 1, srV, fun s => valE.L s.a s.vs.length s.c s.vs, fun _ => rfl, fun s v hv => by simp [srV] at hv; subst hv; rfl, by omega,
  fun F h s => Ro F h s.a (s.vs.flatMap valV), fun r m hf => r.at m hf, fun {_ _ _ _ s} k => ((valE.toV k).sl (a := s.a)).ro⟩
abbrev hitE : El Hi := ⟨Sx, Sx.x, 114, 2, sxV, fun s => valE.L s.a s.x.row.length s.c s.x.row, fun _ => rfl, fun s v hv => by simp [sxV] at hv; rcases hv with rfl | rfl <;> rfl, by omega,
  fun F h s => Ro F h s.a (s.x.row.flatMap valV), fun r m hf => r.at m hf, fun {_ _ _ _ s} k => ((valE.toV k).sl (a := s.a)).ro⟩
theorem T23 : SlTy Tryz.prog 54 9 1 16 (.string (ByteArray.mk #[])) := ⟨by kernel_rfl, by kernel_rfl, rfl, by omega, by omega⟩
theorem T28 : SlTy Tryz.prog 60 38 1 8 (.int .i64 0) := ⟨by kernel_rfl, by kernel_rfl, rfl, by omega, by omega⟩
theorem T24 : SlTy Tryz.prog 55 125 3 48 (.agg #[.string (ByteArray.mk #[]), .int .i64 0, .slice none 0 0]) := ⟨by kernel_rfl, by kernel_rfl, rfl, by omega, by omega⟩
theorem TR30 : SlTy Tryz.prog 45 112 1 24 (.slice none 0 0) := ⟨by kernel_rfl, by kernel_rfl, rfl, by omega, by omega⟩
theorem T29 : SlTy Tryz.prog 61 114 2 40 (.agg #[.string (ByteArray.mk #[]), .slice none 0 0]) := ⟨by kernel_rfl, by kernel_rfl, rfl, by omega, by omega⟩
/-! ### Values and events -/
theorem valP_step (k0 : Holds [RP t p a l c bad] F h) (r : RdP F h a l c bs) : CallsH Tryz.prog 117 #[.pointer (some ⟨p, 0, none⟩)] h
    (fun v h' => ∃ (x : Val) (a1 : Option Addr) (l1 c1 : Nat) (bs1 : Bytes) (bad1 : Bool), v = aggV x ∧ Nxt a l c bs a1 l1 c1 bs1 ∧ StepO valO bs bad x bs1 bad1 ∧ St F h h' [RP t p a1 l1 c1 bad1]) := by
  refine vf117 _ h _ ?_
  unfold F117
  have k := St.start k0
  refine k.vnew fun b1 h2 k => ?_
  obtain ⟨F', G, kF, kG, d, hF, back⟩ := k.pull1.frameA
  refine CallsH.mono (oneP_step kF (r.at k.ext hF)) ?_
  rintro _ h4 ⟨x, a1, l1, c1, bs1, bad1, rfl, nx1, s1, hz, k2⟩
  have k := back k2
  clear back kF kG d hF
  have ex : IntKind.i64.wrap (x.toNat : Int) = (x.toNat : Int) := by have := x.toNat_lt; rw [wrap_id (by omega) (by omega)]
  refine ⟨_, rfl, k.vnew fun b6 h7 k => ?_⟩
  rw [ex]
  refine k.vall (by rfl) (by rfl) fun h8 k => ?_
  refine ⟨fun h' => ∃ (v : Val) (a2 : Option Addr) (l2 c2 : Nat) (bs2 : Bytes) (bad2 : Bool), Nxt a l c bs a2 l2 c2 bs2 ∧ StepO (valB x) bs1 bad1 v bs2 bad2 ∧ St F h h' [RP t p a2 l2 c2 bad2, A.blk b6 (valV v).toArray 127, A.blk b1 zeroV 127], ⟨_, k.rd (by rfl), ?_⟩, ?_⟩
  rotate_left
  · clear k
    rintro h' _ ⟨v, a2, l2, c2, bs2, bad2, nx2, s2, k⟩
    refine VSome.mk ⟨_, k.rd (by rfl), ?_⟩
    cases bad2
    · refine cond_false rfl ⟨_, k.rd (by rfl), _, k.rd (by rfl), _, k.rd (by rfl), _, k.rd (by rfl), ?_⟩
      refine CallsH.mono (valid_spec v) ?_
      rintro _ h43 ⟨rfl, m⟩
      have k := k.next m
      refine ⟨_, rfl, VSome.mk (k.vst (Nat.le_of_ble_eq_true (by rfl)) fun h46 k => ⟨_, k.rd (by rfl), _, k.rd (by rfl), _, k.rd (by rfl), _, k.rd (by rfl), k.vall (by rfl) (by rfl) fun h6 k => ⟨_, k.rd (by rfl), _, k.rd (by rfl), _, k.rd (by rfl), _, k.rd (by rfl), v, a2, l2, c2, bs2, !validV v, rfl, nx2, s1.bind (s2.bind ?_), k.only⟩⟩)⟩
      unfold chk
      cases validV v
      · exact .fail fun _ => rfl
      · exact .ok rfl
    · exact cond_true rfl (VSome.mk (k.vst (Nat.le_of_ble_eq_true (by rfl)) fun h28 k => ⟨_, k.rd (by rfl), _, k.rd (by rfl), _, k.rd (by rfl), _, k.rd (by rfl), k.vall (by rfl) (by rfl) fun h6 k => ⟨_, k.rd (by rfl), _, k.rd (by rfl), _, k.rd (by rfl), _, k.rd (by rfl), v, a2, l2, c2, bs2, true, rfl, nx2, s1.bind (s2.bind StepO.spoilt), k.only⟩⟩))
  refine cond_split (fun hc => ?_) (fun hc => ?_)
  · have hx : x.toNat = 1 := by
      have : (x.toNat : Int) = 1 := by simpa using hc
      omega
    obtain ⟨F', G, kF, kG, d, hF, back⟩ := k.pull1.frameA
    refine CallsH.mono (numP_step kF ((r.nxt nx1).at k.ext hF)) ?_
    rintro _ h12 ⟨n, a2, l2, c2, bs2, bad2, rfl, nx2, s2, _, _, k2⟩
    have k := back k2
    refine ⟨_, rfl, k.vst (Nat.le_of_ble_eq_true (by rfl)) fun h7 k => ⟨⟨1, n, [], false⟩, a2, l2, c2, bs2, bad2, nx1.trans nx2, ?_, ?_⟩⟩
    · unfold valB
      rw [if_pos hx]
      exact s2.bind (.ret _)
    · rw [hx] at k; exact k
  have hx1 : x.toNat ≠ 1 := by
    have : (x.toNat : Int) ≠ 1 := by simpa using hc
    omega
  clear hc
  refine cond_split (fun hc => ?_) (fun hc => ?_)
  · have hx : x.toNat = 2 := by
      have : (x.toNat : Int) = 2 := by simpa using hc
      omega
    obtain ⟨F', G, kF, kG, d, hF, back⟩ := k.pull1.frameA
    refine CallsH.mono (texP_step kF ((r.nxt nx1).at k.ext hF)) ?_
    rintro _ h12 ⟨s, a2, l2, c2, bs2, bad2, rfl, nx2, s2, k2⟩
    have k := back k2
    refine ⟨_, rfl, k.vst (Nat.le_of_ble_eq_true (by rfl)) fun h7 k => ⟨⟨2, 0, s, false⟩, a2, l2, c2, bs2, bad2, nx1.trans nx2, ?_, ?_⟩⟩
    · unfold valB
      rw [if_neg hx1, if_pos hx]
      exact s2.bind (.ret _)
    · rw [hx] at k; exact k
  have hx2 : x.toNat ≠ 2 := by
    have : (x.toNat : Int) ≠ 2 := by simpa using hc
    omega
  clear hc
  refine cond_split (fun hc => ?_) (fun hc => ?_)
  · have hx : x.toNat = 3 := by
      have : (x.toNat : Int) = 3 := by simpa using hc
      omega
    obtain ⟨F', G, kF, kG, d, hF, back⟩ := k.pull1.frameA
    refine CallsH.mono (truP_step kF ((r.nxt nx1).at k.ext hF)) ?_
    rintro _ h12 ⟨y, a2, l2, c2, bs2, bad2, rfl, nx2, s2, k2⟩
    have k := back k2
    refine ⟨_, rfl, k.vst (Nat.le_of_ble_eq_true (by rfl)) fun h7 k => ⟨⟨3, 0, [], y⟩, a2, l2, c2, bs2, bad2, nx1.trans nx2, ?_, ?_⟩⟩
    · unfold valB
      rw [if_neg hx1, if_neg hx2, if_pos hx]
      exact s2.bind (.ret _)
    · rw [hx] at k; exact k
  · have hx3 : x.toNat ≠ 3 := by
      have : (x.toNat : Int) ≠ 3 := by simpa using hc
      omega
    refine ⟨⟨x.toNat, 0, [], false⟩, a1, l1, c1, bs1, bad1, nx1, ?_, k.pull1⟩
    unfold valB
    rw [if_neg hx1, if_neg hx2, if_neg hx3]
    exact .ret _
theorem evR_len {b : Bytes} : (decB b).1.vs.length ≤ 16 := by
  unfold decB
  cases h : evR b with
  | ok x n =>
    obtain ⟨h1, _⟩ := Form.ev.pg _ _ _ h
    exact (fault0.1 h1.1).2.2.2.1
  | err e => exact Nat.zero_le _
/-- Its faults are no zeros. -/
def Bad {α : Type} (f : Bytes → Rd α) : Prop := ∀ b e, f b = .err e → e ≠ 0
theorem Bad.num {b : Bytes} {e : Int} (h : getN b = .err e) : e ≠ 0 := by have := getN_bad h; omega
theorem Bad.bind {α β : Type} {f : Bytes → Rd α} {g : α → Bytes → Rd β} (h1 : Bad f) (h2 : ∀ x, Bad (g x)) : Bad (bindR f g) := fun b e h => by
  unfold bindR at h
  split at h
  · split at h
    · cases h
    · rename_i _ _ _ _ _ hg
      cases h
      exact h2 _ _ _ hg
  · rename_i _ hf
    cases h
    exact h1 _ _ hf
theorem Bad.ret {α : Type} (x : α) : Bad (retR x) := fun b e h => by cases h
theorem Bad.nb (lo hi : Int) : Bad (numb lo hi) := fun b e h => by
  unfold numb at h
  split at h
  · split at h
    · cases h; omega
    · cases h
  · rename_i _ hg
    cases h
    exact Bad.num hg
theorem Bad.tk (n : Nat) : Bad (takeB n) := fun b e h => by
  unfold takeB at h
  split at h
  · cases h; omega
  · cases h
theorem Bad.one (lo hi : Nat) : Bad (oneR lo hi) := fun b e h => by
  unfold oneR at h
  split at h
  · cases h; omega
  · split at h
    · cases h; omega
    · cases h
theorem Bad.rp {α : Type} {f : Bytes → Rd α} (h : Bad f) : ∀ n, Bad (rep f n)
  | 0 => .ret _
  | n + 1 => .bind h fun _ => .bind (Bad.rp h n) fun _ => .ret _
theorem Bad.text (lo hi : Int) : Bad (textR lo hi) := .bind (.nb _ _) fun _ => .tk _
theorem Bad.val : Bad valR := .bind (.one _ _) fun c => by
  split
  · exact .bind (.nb _ _) fun _ => .ret _
  split
  · exact .bind (.text _ _) fun _ => .ret _
  · exact .bind (.one _ _) fun _ => .ret _
theorem Bad.ev : Bad evR := .bind (.bind (.text _ _) fun t => by
  split
  · exact .ret _
  · intro b e h; cases h; omega) fun _ => .bind (.nb _ _) fun _ => .bind (.nb _ _) fun _ => .bind (.rp .val _) fun _ => .ret _
theorem evP_step (hw : Wd F h) (k0 : Holds [RP t p a l c bad] F h) (r : RdP F h a l c bs) : CallsH Tryz.prog 114 #[.pointer (some ⟨p, 0, none⟩)] h
    (fun v h' => ∃ (s : Se) (a1 : Option Addr) (l1 c1 : Nat) (bs1 : Bytes) (bad1 : Bool), v = aggE s.e s.a s.e.vs.length s.c ∧ Nxt a l c bs a1 l1 c1 bs1 ∧ StepO evO bs bad s.e bs1 bad1 ∧ s.e.vs.length ≤ 16 ∧ St F h h' [RP t p a1 l1 c1 bad1, VV s.a s.e.vs.length s.c s.e.vs]) := by
  refine vf114 _ h _ ?_
  unfold F114
  have k := St.start k0
  have hlen := r.len
  have hlc := r.lc
  have hbig := r.big
  refine k.vnew fun b1 h2 k => VSome.mk ⟨_, k.rd (by rfl), ?_⟩
  cases bad
  rotate_left
  · refine cond_true rfl (k.vall (by rfl) (by rfl) fun h5 k => ⟨_, k.rd (by rfl), _, k.rd (by rfl), _, _, _, k.rd (by rfl), ⟨none, 0, noEv⟩, a, l, c, bs, true, rfl, .refl, .spoilt, Nat.zero_le _, ?_⟩)
    exact (k.drop.vnil 127 (sz := 4) (by omega)).pull1
  refine cond_false rfl (VSome.mk ⟨_, _, _, k.rd (by rfl), ?_⟩)
  refine CallsH.mono (decode_spec (bs := bs) (hw.at k.ext fun b hb => .inl hb).sl.ro (r.ro.mod k.ext).sl hlen hlc hbig) ?_
  rintro _ h12 ⟨a', c', rfl, kd⟩
  have k := k.add1 kd
  have hvl := evR_len (b := bs)
  refine ⟨_, _, _, _, _, _, _, rfl, k.vnew fun b18 h19 k => k.vall (by rfl) (by rfl) fun h20 k => ?_⟩
  cases hg : evR bs with
  | err e2 =>
    have hd : decB bs = (noEv, 0, e2) := by unfold decB; rw [hg]
    have he2 : e2 ≠ 0 := Bad.ev _ _ hg
    rw [hd] at k ⊢
    refine cond_true (by simpa using he2) (VSome.mk (k.vst (Nat.le_of_ble_eq_true (by rfl)) fun h22 k => k.vall (by rfl) (by rfl) fun h23 k => ⟨_, k.rd (by rfl), _, k.rd (by rfl), _, _, _, k.rd (by rfl), ⟨none, 0, noEv⟩, a, l, c, bs, true, rfl, .refl, .fail fun _ => ?_, Nat.zero_le _, ?_⟩))
    · unfold evO ofR
      rw [hg]
    · exact ((k.drop.drop.drop).vnil 127 (sz := 4) (by omega)).pull1
  | ok x n =>
    have hd : decB bs = (x, n, 0) := by unfold decB; rw [hg]
    have hle := Form.ev.le hg
    rw [hd] at k hvl ⊢
    refine cond_false rfl (VSome.mk ⟨_, _, _, k.rd (by rfl), ?_⟩)
    refine cutFront hlen (n := n) rfl rfl rfl (by omega) hlc fun a1 nx => VSome.mk (k.vst (Nat.le_of_ble_eq_true (by rfl)) fun h31 k => ⟨_, k.rd (by rfl), _, k.rd (by rfl), _, _, _, k.rd (by rfl), k.vall (by rfl) (by rfl) fun h35 k => ⟨_, k.rd (by rfl), _, k.rd (by rfl), _, _, _, k.rd (by rfl), ⟨a', c', x⟩, a1, _, _, _, false, rfl, nx, .ok ?_, hvl, ?_⟩⟩)
    · unfold evO ofR
      rw [hg]
    · exact (k.sel 4 [3, 1, 0, 2] rfl (by decide) (L' := [_, _, _, _]) (by rfl)).only2
end Go.Proofs.YtgdgebmlcgohhaaGreatDoor.F
