/- Marks that are numbers and texts. Conditions: none. -/
import Derived.Test.YtgdgebmlcgohhaaGreatDoorFB
namespace Go.Proofs.YtgdgebmlcgohhaaGreatDoor.F
open Go Go.VC Go.Proofs
set_option linter.unusedSimpArgs false
set_option linter.unusedVariables false
set_option maxRecDepth 100000
attribute [local irreducible] CallsH RunsTo PureTo

variable {S F G : Nat → Prop} {h0 h h1 : Heap} {L R L' : List A} {a b0 la wa : Option Addr} {l c l2 c2 p b cl cw q g : Nat} {bs cs : List UInt8} {n : Int}
theorem num_spec (i : Nat) (hi : i < 4611686018427387904) : CallsH Tryz.prog 60 #[.int .i64 i] h (fun v h' => v = .int .i64 ((1000 + i / 2 : Nat) : Int) ∧ h' = h) := by
  refine vf60 _ h _ ?_
  unfold F60
  have e2 : Int.tdiv (i : Int) 2 = ((i / 2 : Nat) : Int) := rfl
  rw [e2, wrap_id (n := ((i / 2 : Nat) : Int)) (by omega) (by omega), wrap_id (by omega) (by omega)]
  refine ⟨by omega, ?_, rfl⟩
  congr 1
/-- A number's digits, the last first, behind a text. -/
def digs : Nat → Nat → Bytes → Bytes
  | 0, _, s => s
  | f + 1, n, s => if n = 0 then s else digs f (n / 10) (s ++ [UInt8.ofNat (48 + n % 10)])
theorem digs_0 : ∀ (f : Nat) (s : Bytes), digs f 0 s = s
  | 0, _ => rfl
  | f + 1, s => if_pos rfl
def nameB (q : Nat) : Bytes := digs 20 (1 + q) [109]
theorem cat_bA (s t : Bytes) : bA s ++ bA t = bA (s ++ t) := by
  apply ByteArray.ext
  simp [bA]
theorem name_spec61 (i : Nat) (hi : i < 4611686018427387904) : CallsH Tryz.prog 61 #[.int .i64 i] h (fun v h' => v = .string (bA (nameB (i / 2))) ∧ Ext h h') := by
  refine vf61 _ h _ ?_
  unfold F61
  have e2 : Int.tdiv (i : Int) 2 = ((i / 2 : Nat) : Int) := rfl
  have e4 : IntKind.i64.wrap (1 + IntKind.i64.wrap ((i / 2 : Nat) : Int)) = ((1 + i / 2 : Nat) : Int) := by rw [wrap_id (n := ((i / 2 : Nat) : Int)) (by omega) (by omega), wrap_id (by omega) (by omega)]; omega
  rw [e2, e4]
  refine ⟨by omega, fun m h' s x => ∃ (f nn : Nat) (t : Bytes), m = f ∧ x = nn ∧ nn < 10 ^ f ∧ f ≤ 20 ∧ s = bA t ∧ t.length + f ≤ 21 ∧ digs f nn t = nameB (i / 2) ∧ nn < 4611686018427387905 ∧ Ext h h', ⟨20, 20, 1 + i / 2, [109], rfl, rfl, by omega, Nat.le_refl _, rfl, Nat.le_refl _, rfl, by omega, Mod.refl _ h⟩, ?_⟩
  rintro m h3 _ s x ⟨f, nn, t, rfl, rfl, hn, hf, rfl, ht, hd, hb, ex⟩
  refine cond_split (fun hc => ?_) (fun hc => ?_)
  · have hpos : 0 < nn := by have : (nn : Int) > 0 := of_decide_eq_true hc; omega
    cases m with
    | zero => simp at hn; omega
    | succ f =>
      have e5 : Int.tmod (nn : Int) 10 = ((nn % 10 : Nat) : Int) := rfl
      have e6 : Int.tdiv (nn : Int) 10 = ((nn / 10 : Nat) : Int) := rfl
      have hb8 : (.int .u8 (IntKind.u8.wrap (IntKind.i64.wrap (48 + Int.tmod (nn : Int) 10))) : Value) = byteV (UInt8.ofNat (48 + nn % 10)) := by
        have : nn % 10 < 10 := Nat.mod_lt _ (by omega)
        rw [e5, wrap_id (by omega) (by omega), byteV_of, wrap_u8]; congr 1
      rw [hb8, e6, wrap_id (n := ((nn / 10 : Nat) : Int)) (by omega) (by omega)]
      refine ⟨by omega, (St.fresh h3).vnew fun b8 h9 k => ?_⟩
      have hs : Sl h9 (some ⟨b8, 0, none⟩) (bytesV [UInt8.ofNat (48 + nn % 10)]) := k.slB (b := b8)
      refine bytes_text und30 (by kernel_rfl) und9 hs rfl ⟨_, rfl, ?_, by omega, f, by omega, f, nn / 10, t ++ [UInt8.ofNat (48 + nn % 10)], rfl, rfl, ?_, by omega, cat_bA _ _, by rw [List.length_append]; show t.length + 1 + f ≤ 21; omega, ?_, by omega, ex.then k.ext⟩
      · rw [bA_size, bA_size]
        show ((t.length + 1 : Nat) : Int) ≤ _
        omega
      · rw [Nat.pow_succ] at hn
        omega
      · rw [← hd]
        show _ = (if nn = 0 then t else _)
        rw [if_neg (by omega)]
  · have hz : nn = 0 := by have : ¬ (nn : Int) > 0 := of_decide_eq_false hc; omega
    subst hz
    rw [digs_0] at hd
    rw [hd]
    exact ⟨rfl, ex⟩
/-! ### The kinds of lists -/
abbrev mkN (q : Nat) : Val := ⟨((1000 + q : Nat) : Int), 0, [], false⟩
def KN0 : Kd := ⟨127, 4, fun q _ => valV (mkN q), fun _ _ => rfl, fun _ _ => oneC_val _, by omega⟩
def KN1 : Kd := ⟨9, 1, fun q _ => [strV (nameB q)], fun _ _ => rfl, fun _ _ v hv => by rw [List.mem_singleton.1 hv]; rfl, by omega⟩
def KN2 : Kd := ⟨38, 1, fun q _ => [.int .i64 ((1000 + q : Nat) : Int)], fun _ _ => rfl, fun _ _ v hv => by rw [List.mem_singleton.1 hv]; rfl, by omega⟩
def KN3 : Kd := ⟨125, 3, fun q _ => [strV (nameB q), .int .i64 0, .slice none 0 0], fun _ _ => rfl, fun _ _ v hv => by simp at hv; rcases hv with rfl | rfl | rfl <;> rfl, by omega⟩
def KN4 : Kd := ⟨114, 2, fun q _ => [strV (nameB q), .slice none 0 0], fun _ _ => rfl, fun _ _ v hv => by simp at hv; rcases hv with rfl | rfl <;> rfl, by omega⟩
end Go.Proofs.YtgdgebmlcgohhaaGreatDoor.F
