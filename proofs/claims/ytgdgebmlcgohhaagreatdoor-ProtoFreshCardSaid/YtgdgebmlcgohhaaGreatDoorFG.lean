/- Some of the pieces: as many as are not too great. Conditions: none. -/
import Derived.Test.YtgdgebmlcgohhaaGreatDoorFF
namespace Go.Proofs.YtgdgebmlcgohhaaGreatDoor.F
open Go Go.VC Go.Proofs
set_option linter.unusedSimpArgs false
set_option linter.unusedVariables false
set_option maxRecDepth 100000
attribute [local irreducible] CallsH RunsTo PureTo

variable {S F G : Nat → Prop} {h0 h h1 : Heap} {L R L' : List A} {a b0 la wa : Option Addr} {l c l2 c2 p b cl cw g t e sz bt : Nat} {n : Int} {vs news : List Value} {z : Value}
theorem front {hi mx : Nat} {y w : Int} (hy : y = hi) (hw : w = mx) (h1 : hi ≤ mx) (h2 : mx ≤ c) {K : Option Addr → Nat → Nat → Prop} (q : K a hi mx) : VSlice sz a c 0 y w K := by
  refine ⟨0, hi, mx, rfl, hy, hw, Nat.zero_le _, h1, h2, ?_⟩
  have e : a.map (·.add (0 * sz)) = a := by
    cases a with
    | none => rfl
    | some ad => rw [Nat.zero_mul]; show some (ad.add 0) = some ad; unfold Addr.add; simp
  rw [e, Nat.sub_zero, Nat.sub_zero, ite_self]
  exact q
def lensum (xs : List Bytes) : Nat := (xs.map List.length).sum
theorem lensum_next {xs : List Bytes} {j : Nat} {x : Bytes} (h : xs[j]? = some x) : lensum (xs.take (j + 1)) = lensum (xs.take j) + x.length := by
  unfold lensum
  rw [tnext h, List.map_append, List.sum_append]; simp
theorem some_spec {xs : List Bytes} (r : RoX bytE none_ h a l xs) (hc : l ≤ c) (hxl : xs.length = l) (hlen : ∀ b ∈ xs, b.length ≤ 140737488355328) (hcb : c < 9223372036854775808) :
    CallsH Tryz.prog 8 #[.slice a l c] h (fun v h' => h' = h ∧ ∃ k, k ≤ l ∧ v = .slice a k c ∧ 16 * k + lensum (xs.take k) ≤ 4194304) := by
  refine vf8 _ _ _ h _ ?_
  unfold F8
  refine ⟨fun m h' y ly cy n i => ∃ j : Nat, i = j ∧ j ≤ l ∧ m = l - j ∧ n = ((16 * j + lensum (xs.take j) : Nat) : Int) ∧ 16 * j + lensum (xs.take j) ≤ 4194304 ∧ h' = h, ⟨_, 0, rfl, Nat.zero_le _, rfl, rfl, by simp [lensum], rfl⟩, ?_⟩
  rintro m _ _ y ly cy n i ⟨j, rfl, hj, rfl, rfl, hs, rfl⟩
  refine cond_split (fun hcc => ?_) (fun hcc => ?_)
  · have hjl : j < l := Int.ofNat_lt.1 (of_decide_eq_true hcc)
    refine r.one (Mod.refl _ _) (by omega) (by omega) fun ad z hz hcz hrd => ⟨z.a, z.bs.length, z.c, hcz 0 _ rfl, ?_⟩
    rw [Int.toNat_natCast] at hz
    have hz : xs[j]? = some z.bs := hz
    have hzl : z.bs.length ≤ 140737488355328 := hlen _ (List.mem_of_getElem? hz)
    have hnx := lensum_next hz
    have e1 : IntKind.i64.wrap ((IntKind.i64.wrap (((16 * j + lensum (xs.take j) : Nat) : Int) + 16)) + (z.bs.length : Int)) = ((16 * (j + 1) + lensum (xs.take (j + 1)) : Nat) : Int) := by
      rw [wrap_id (n := ((16 * j + lensum (xs.take j) : Nat) : Int) + 16) (by omega) (by omega), wrap_id (by omega) (by omega), hnx]
      omega
    rw [e1]
    refine cond_split (fun hgt => ?_) (fun hgt => ?_)
    · exact front rfl rfl (by omega) (Nat.le_refl _) ⟨rfl, j, hj, rfl, hs⟩
    · have hle : ¬ ((16 * (j + 1) + lensum (xs.take (j + 1)) : Nat) : Int) > 4194304 := of_decide_eq_false hgt
      exact ⟨l - (j + 1), by omega, j + 1, wrap_nat hjl (by omega), hjl, rfl, rfl, by omega, rfl⟩
  · have hjl : j = l := by
      have : ¬ (j : Int) < l := of_decide_eq_false hcc
      omega
    subst hjl
    exact ⟨rfl, j, Nat.le_refl _, rfl, hs⟩
theorem over_spec {xs : List Bytes} (r : RoX bytE none_ h a l xs) (hlen : ∀ b ∈ xs, b.length ≤ 1099511627776) (hl : l ≤ 1099511627776) :
    CallsH Tryz.prog 37 #[.slice a l c] h (fun v h' => ∃ a' c', v = .slice a' l c' ∧ St none_ h h' [bytE.L a' l c' xs]) := by
  have hxl : xs.length = l := r.len
  refine vf37 _ _ _ h _ ?_
  unfold F37
  refine ⟨fun mm h' m lm cm i => ∃ j : Nat, i = j ∧ lm = j ∧ j ≤ l ∧ mm = l - j ∧ St none_ h h' [bytE.L m j cm (xs.take j)], ⟨_, 0, rfl, rfl, Nat.zero_le _, rfl, El.nil bytE (St.fresh h)⟩, ?_⟩
  rintro mm h3 _ m lm cm i ⟨j, rfl, rfl, hj, rfl, k⟩
  refine cond_split (fun hcc => ?_) (fun hcc => ?_)
  · have hjl : lm < l := Int.ofNat_lt.1 (of_decide_eq_true hcc)
    refine r.one k.ext (by omega) (by omega) fun ad z hz hcz hrd => ⟨z.a, z.bs.length, z.c, hcz 0 _ rfl, ?_⟩
    rw [Int.toNat_natCast] at hz
    have hz : xs[lm]? = some z.bs := hz
    have hzl : z.bs.length ≤ 1099511627776 := hlen _ (List.mem_of_getElem? hz)
    have hrd : Ro none_ h z.a (bytesV z.bs) := hrd
    have hs := (hrd.mod k.ext).sl
    refine (k.vnil 5 (sz := 1) (by omega)).app T30 T30.ut (by simp) (n := z.bs.length) (Src.slice hs (by rw [bytesV_len, Nat.mul_one])) (oneC_bytes _) (by omega) fun a12 c12 h11 k => ?_
    rw [Nat.zero_add, List.nil_append] at *
    refine ⟨_, _, _, rfl, k.vnew fun b13 h14 k => ?_⟩
    refine El.app (E := bytE) (s := ⟨a12, c12, z.bs⟩) T48 k (by omega) fun a' c' h16 k => ⟨_, _, _, rfl, l - (lm + 1), by omega, lm + 1, wrap_nat hjl (by omega), rfl, hjl, rfl, ?_⟩
    rw [tnext hz]
    exact k
  · have hjl : lm = l := by
      have : ¬ (lm : Int) < l := of_decide_eq_false hcc
      omega
    subst hjl
    rw [List.take_of_length_le (by omega)] at k
    exact ⟨_, _, rfl, k⟩
end Go.Proofs.YtgdgebmlcgohhaaGreatDoor.F
