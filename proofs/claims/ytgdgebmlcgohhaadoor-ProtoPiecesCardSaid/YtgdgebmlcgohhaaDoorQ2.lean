/- Package proto: a copy, a frame. Conditions: none. -/
import Derived.Test.YtgdgebmlcgohhaaDoorQ1
namespace Go.Proofs.YtgdgebmlcgohhaaDoor.F
open Go Go.VC Go.Proofs
set_option linter.unusedSimpArgs false
set_option linter.unusedVariables false
set_option maxRecDepth 100000
attribute [local irreducible] CallsH RunsTo PureTo

variable {S F G : Nat → Prop} {h0 h h1 : Heap} {L R L' : List A} {a b : Option Addr} {l c l2 c2 p t at_ : Nat} {bs cs : List UInt8} {vs : List Value}
theorem clone_spec (hs : Sl h a (bytesV bs)) (hl : bs.length = l) (hb : l < 140737488355328) : CallsH Tryd.prog 59 #[.slice a l c] h (fun v h' => ∃ a' c', v = .slice a' l c' ∧ St none_ h h' [BV a' l c' bs]) := by
  refine vf59 _ _ _ h _ ?_
  unfold F59
  have k := St.fresh h
  refine cond_split (fun hc => ?_) (fun hc => ?_)
  · have hbs : bs = [] := by
      cases bs with
      | nil => rfl
      | cons b r =>
        obtain ⟨ad, h0, _⟩ := hs 0 (byteV b) rfl
        subst h0; cases hc
    subst hbs
    simp only [List.length_nil] at hl
    subst hl
    exact ⟨_, _, rfl, k.vnil 5 (by omega)⟩
  · refine k.vnew fun b h1 k => ?_
    have k := k.blkvec (sz := 1) (n := 0) rfl (by omega) (by omega)
    refine k.app T30 und30 (by simp) (Src.slice (hs.ro.in k).sl (by rw [bytesV_len, hl, Nat.mul_one])) (oneC_bytes _) (by omega) fun a2 c2 h' k => ⟨_, _, _, rfl, a2, c2, by rw [Nat.zero_add], by rw [Nat.zero_add] at k; exact k⟩
/-- A payload's frame. -/
def frameB (p : Bytes) : Bytes := (be4 p.length ++ p) ++ be4 (adl (be4 p.length ++ p))
def frameR (p : Bytes) : Bytes × Int := if 65528 < p.length then ([], 2) else (frameB p, 0)
theorem frameB_len (p : Bytes) : (frameB p).length = p.length + 8 := by
  unfold frameB
  rw [List.length_append, List.length_append, be4_len, be4_len]; omega
theorem frame_spec (hs : Sl h a (bytesV bs)) (hl : bs.length = l) : CallsH Tryd.prog 16 #[.slice a l c] h
    (fun v h' => ∃ a' c', v = .tuple #[.slice a' (frameR bs).1.length c', .int .i64 (frameR bs).2] ∧ St none_ h h' [BV a' (frameR bs).1.length c' (frameR bs).1]) := by
  refine vf16 _ _ _ h _ ?_
  unfold F16
  have k := St.fresh h
  subst hl
  refine cond_split (fun hc => ?_) (fun hc => ?_)
  · have hlt : 65528 < bs.length := by
      have : (65528 : Int) < bs.length := of_decide_eq_true hc
      omega
    have e : frameR bs = ([], 2) := if_pos hlt
    rw [e]
    exact ⟨none, 0, rfl, k.vnil 5 (by omega)⟩
  · have hle : ¬ 65528 < bs.length := fun h => by
      have : ¬ (65528 : Int) < bs.length := of_decide_eq_false hc
      omega
    have e : frameR bs = (frameB bs, 0) := if_neg hle
    rw [e]
    have e2 : IntKind.u32.wrap (bs.length : Int) = (bs.length : Int) := by rw [wrap_u32]; omega
    rw [e2]
    obtain ⟨F1, G1, kF, _, _, _, back⟩ := (k.vnil 5 (sz := 1) (by omega)).frameA
    refine CallsH.mono (four_spec bs.length kF (by omega)) ?_
    rintro _ h2 ⟨a3, c3, rfl, k2⟩
    have k := back k2
    refine ⟨_, _, _, rfl, ?_⟩
    refine k.app T30 und30 (by simp) (Src.slice (hs.ro.in k).sl (by rw [bytesV_len, Nat.mul_one])) (oneC_bytes _) (by omega) fun a6 c6 h5 k => ⟨_, _, _, rfl, ?_⟩
    rw [List.nil_append, ← bytesV_app, Nat.zero_add] at k
    rw [Nat.zero_add]
    refine CallsH.mono (sum_spec (k.sl (a := a6)) (by rw [List.length_append, be4_len]) (by omega)) ?_
    rintro _ _ ⟨rfl, rfl⟩
    refine ⟨_, rfl, ?_⟩
    obtain ⟨F2, G2, kF2, _, _, _, back2⟩ := k.frameA
    refine CallsH.mono (four_spec (adl (be4 bs.length ++ bs)) kF2 (by omega)) ?_
    rintro _ h11 ⟨a12, c12, rfl, k3⟩
    have k := back2 k3
    rw [← bytesV_app] at k
    have el : 4 + bs.length + 4 = (frameB bs).length := by rw [frameB_len]; omega
    rw [el] at k ⊢
    exact ⟨_, _, _, rfl, a12, c12, rfl, k⟩
end Go.Proofs.YtgdgebmlcgohhaaDoor.F
