/- Package log and the document's: heads, frames; lists over. Conditions: none. -/
import Derived.Test.YtbaglaoefaoaoaaDoorL1
namespace Go.Proofs.YtbaglaoefaoaoaaDoor.F
open Go Go.VC Go.Proofs
set_option linter.unusedSimpArgs false
set_option linter.unusedVariables false
set_option maxRecDepth 100000
attribute [local irreducible] CallsH RunsTo PureTo

abbrev BV (a : Option Addr) (l c : Nat) (bs : List UInt8) : A := A.vec 5 1 a l c (bytesV bs)
def magicB : List UInt8 := [114, 108, 111, 103]
def headB (n : BitVec 32) : List UInt8 := magicB ++ be32 n ++ be32 (crc (magicB ++ be32 n))
def thirdB (seg fr n s : BitVec 32) : BitVec 32 := crc (be32 seg ++ be32 fr ++ be32 n ++ be32 s)
def frameB (seg fr : BitVec 32) (r : List UInt8) : List UInt8 :=
  be32 (BitVec.ofNat 32 r.length) ++ be32 (crc r) ++ be32 (thirdB seg fr (BitVec.ofNat 32 r.length) (crc r)) ++ r
theorem be32_len (n : BitVec 32) : (be32 n).length = 4 := rfl
theorem headB_len (n : BitVec 32) : (headB n).length = 12 := rfl
theorem frameB_len (seg fr : BitVec 32) (r : List UInt8) : (frameB seg fr r).length = 12 + r.length := by
  simp only [frameB, List.length_append, be32_len]
variable {h : Heap} {a : Option Addr} {l c : Nat} {bs : List UInt8}
theorem add_spec (ns : List (BitVec 32)) {F : Nat → Prop} {xs : List UInt8} (hv : Holds [BV a l c xs] F h) {p : Option Addr} {n cn : Nat} (hs : Ro F h p (ns.map u32V)) (hn : ns.length = n) (hb : l + 4 * n ≤ 140737488355328) :
    CallsH Tryd.prog 59 #[.slice a l c, .slice p n cn] h (fun v h' => ∃ a' c', v = .slice a' (l + 4 * n) c' ∧ St F h h' [BV a' (l + 4 * n) c' (xs ++ ns.flatMap be32)]) := by
  refine vf59 _ _ _ _ _ _ h _ ?_
  unfold F59
  refine ⟨fun m hh a' l' c' y => ∃ j : Nat, y = j ∧ j ≤ n ∧ m = n - j ∧ l' = l + 4 * j ∧ St F h hh [BV a' l' c' (xs ++ (ns.take j).flatMap be32)], ⟨_, 0, rfl, by omega, rfl, rfl, by simpa using St.start hv⟩, ?_⟩
  rintro m hh _ a' l' c' y ⟨j, rfl, hj, rfl, rfl, k⟩
  refine cond_split (fun hc => ?_) (fun hc => ?_)
  · have hjn : j < n := Int.ofNat_lt.1 (of_decide_eq_true hc)
    refine (hs.mod k.ext).sl.one hn (by omega) (by omega) fun ad x hx hcell => ⟨_, hcell, ?_⟩
    rw [Int.toNat_natCast] at hx
    obtain ⟨F', G, k1, _, _, _, back⟩ := k.frameA
    refine CallsH.mono (four_spec x k1 (by omega)) ?_
    rintro _ h' ⟨a2, c2, rfl, k2⟩
    refine ⟨_, _, _, rfl, _, ?_, j + 1, wrap_nat hjn (by omega), hjn, rfl, by omega, ?_⟩
    · omega
    · have e : xs ++ (ns.take (j + 1)).flatMap be32 = xs ++ (ns.take j).flatMap be32 ++ be32 x := by
        rw [List.take_add_one, hx, List.flatMap_append]; simp
      unfold BV
      rw [e, bytesV_app]
      exact back k2
  · have hjn : j = n := by
      have : ¬ (j : Int) < n := of_decide_eq_false hc
      omega
    subst hjn
    rw [List.take_of_length_le (by omega)] at k
    exact ⟨_, _, rfl, k⟩
theorem third_spec (seg fr n s : BitVec 32) (hT : Tab none_ h) : CallsH Tryd.prog 57 #[u32V seg, u32V fr, u32V n, u32V s] h (fun v h' => v = u32V (thirdB seg fr n s) ∧ Ext h h') := by
  refine vf57 _ _ _ _ h _ ?_
  unfold F57
  have k := St.fresh h
  refine k.vnew fun b h1 k => ?_
  have k := k.vnil 5 (sz := 1) (by omega)
  obtain ⟨F, G, k1, kG, d, _, back⟩ := k.frameA
  refine CallsH.mono (add_spec [seg, fr, n, s] (xs := []) k1 (kG.roB d (b := b)) rfl (by omega)) ?_
  rintro _ h2 ⟨a', c', rfl, k2⟩
  have k := back k2
  refine ⟨_, _, _, rfl, ?_⟩
  refine CallsH.mono (sum_spec (hT.in k) (k.sl (a := a')) rfl (by omega)) ?_
  rintro _ _ ⟨rfl, rfl⟩
  refine ⟨_, rfl, ?_, k.ext⟩
  unfold thirdB
  rw [show [] ++ [seg, fr, n, s].flatMap be32 = be32 seg ++ be32 fr ++ be32 n ++ be32 s by simp]
  rfl
theorem head_spec (n : BitVec 32) (hT : Tab none_ h) : CallsH Tryd.prog 58 #[u32V n] h (fun v h' => ∃ a' c', v = .slice a' 12 c' ∧ St none_ h h' [BV a' 12 c' (headB n)]) := by
  refine vf58 _ h _ ?_
  unfold F58
  have k := St.fresh h
  refine k.vnew fun b h1 k => ?_
  refine k.marked und26 und5 fun h2 k => ⟨_, _, _, rfl, ?_⟩
  have k := k.blkvec (sz := 1) (n := 4) rfl (by omega) (by omega)
  refine k.vnew fun b2 h3 k => ?_
  obtain ⟨F, G, k1, kG, d, _, back⟩ := k.pull1.frameA
  refine CallsH.mono (add_spec [n] (xs := magicB) k1 (kG.roB d (b := b2)) rfl (by omega)) ?_
  rintro _ h4 ⟨a', c', rfl, k2⟩
  have k := (back k2).pull1.drop
  refine ⟨_, _, _, rfl, ?_⟩
  refine CallsH.mono (sum_spec (hT.in k) (k.sl (a := a')) rfl (by omega)) ?_
  rintro _ _ ⟨rfl, rfl⟩
  refine ⟨_, rfl, k.vnew fun b3 h5 k => ?_⟩
  obtain ⟨F, G, k1, kG, d, _, back⟩ := k.pull1.frameA
  refine CallsH.mono (add_spec [crc (magicB ++ [n].flatMap be32)] k1 (kG.roB d (b := b3)) rfl (by omega)) ?_
  rintro _ h4 ⟨a', c', rfl, k2⟩
  exact ⟨_, _, _, rfl, _, _, rfl, by simpa [headB] using (back k2).pull1.drop⟩
theorem frame_spec (seg fr : BitVec 32) (r : List UInt8) (hT : Tab none_ h) (hs : Sl h a (bytesV r)) (hl : r.length = l) (hb : l < 4294967296) :
    CallsH Tryd.prog 45 #[u32V seg, u32V fr, .slice a l c] h (fun v h' => ∃ a' c', v = .slice a' (12 + l) c' ∧ St none_ h h' [BV a' (12 + l) c' (frameB seg fr r)]) := by
  refine vf45 _ _ _ _ _ h _ ?_
  unfold F45
  refine CallsH.mono (sum_spec hT hs hl (by omega)) ?_
  rintro _ _ ⟨rfl, rfl⟩
  have ew : Value.int .u32 (IntKind.u32.wrap (l : Int)) = u32V (BitVec.ofNat 32 r.length) := by
    unfold u32V
    rw [wrap_u32, hl, BitVec.toNat_ofNat]; congr 1
  refine ⟨_, rfl, ?_⟩
  rw [ew]
  refine CallsH.mono (third_spec seg fr (BitVec.ofNat 32 r.length) (crc r) hT) ?_
  rintro _ h1 ⟨rfl, m1⟩
  have k := (St.fresh _).next m1
  refine ⟨_, rfl, k.vnew fun b h2 k => ?_⟩
  have k := k.vnil 5 (sz := 1) (by omega)
  obtain ⟨F, G, k1, kG, d, _, back⟩ := k.frameA
  refine CallsH.mono (add_spec [BitVec.ofNat 32 r.length, crc r, thirdB seg fr (BitVec.ofNat 32 r.length) (crc r)] (xs := []) k1 (kG.roB d (b := b)) rfl (by omega)) ?_
  rintro _ h4 ⟨a', c', rfl, k2⟩
  have k := back k2
  refine ⟨_, _, _, rfl, ?_⟩
  refine k.app T26 und26 (by simp) (Src.slice (hs.ro.in k).sl (by rw [bytesV_len, hl, Nat.mul_one])) (oneC_bytes _) (by omega) fun a2 c2 h' k => ⟨_, _, _, rfl, a2, c2, rfl, ?_⟩
  rw [← bytesV_app] at k
  simpa [frameB] using k.pull1.drop
theorem rthird_spec (seg fr n s : BitVec 32) : CallsH Tryd.prog 62 #[u32V seg, u32V fr, u32V n, u32V s] h (fun v h' => v = u32V (thirdB seg fr n s) ∧ Ext h h') := by
  refine vf62 _ _ _ _ h _ ?_
  unfold F62
  have k := St.fresh h
  refine CallsH.mono (rfour_spec seg) ?_
  rintro _ h1 ⟨a1, rfl, k1⟩
  have k := k.add1 k1
  refine ⟨_, _, _, rfl, CallsH.mono (rfour_spec fr) ?_⟩
  rintro _ h2 ⟨a2, rfl, k1⟩
  have k := k.add1 k1
  refine ⟨_, _, _, rfl, k.pull1.app T26 und26 (by simp) (Src.slice (k.sl (a := a2)) rfl) (oneC_bytes _) (by omega) fun a3 c3 h3 k => ⟨_, _, _, rfl, CallsH.mono (rfour_spec n) ?_⟩⟩
  rintro _ h4 ⟨a4, rfl, k1⟩
  have k := k.add1 k1
  refine ⟨_, _, _, rfl, k.pull1.app T26 und26 (by simp) (Src.slice (k.sl (a := a4)) rfl) (oneC_bytes _) (by omega) fun a5 c5 h5 k => ⟨_, _, _, rfl, CallsH.mono (rfour_spec s) ?_⟩⟩
  rintro _ h6 ⟨a6, rfl, k1⟩
  have k := k.add1 k1
  refine ⟨_, _, _, rfl, k.pull1.app T26 und26 (by simp) (Src.slice (k.sl (a := a6)) rfl) (oneC_bytes _) (by omega) fun a7 c7 h7 k => ⟨_, _, _, rfl, ?_⟩⟩
  rw [← bytesV_app, ← bytesV_app, ← bytesV_app] at k
  refine CallsH.mono (rsum_spec (k.sl (a := a7)) rfl (by omega)) ?_
  rintro _ _ ⟨rfl, rfl⟩
  exact ⟨_, rfl, rfl, k.ext⟩
theorem rhead_spec (n : BitVec 32) : CallsH Tryd.prog 63 #[u32V n] h (fun v h' => ∃ a' c', v = .slice a' 12 c' ∧ St none_ h h' [BV a' 12 c' (headB n)]) := by
  refine vf63 _ h _ ?_
  unfold F63
  have k := St.fresh h
  refine k.vnew fun b h1 k => ?_
  have k := k.blkvec (sz := 1) (n := 4) rfl (by omega) (by omega)
  refine CallsH.mono (rfour_spec n) ?_
  rintro _ h1 ⟨a1, rfl, k1⟩
  have k := k.add1 k1
  refine ⟨_, _, _, rfl, k.pull1.app T26 und26 (by simp) (Src.slice (k.sl (a := a1)) rfl) (oneC_bytes _) (by omega) fun a3 c3 h3 k => ⟨_, _, _, rfl, ?_⟩⟩
  have k := k.re (y := BV a3 8 c3 (magicB ++ be32 n)) (by unfold BV; rw [bytesV_app]; rfl)
  refine CallsH.mono (rsum_spec (k.sl (a := a3)) rfl (by omega)) ?_
  rintro _ _ ⟨rfl, rfl⟩
  refine ⟨_, rfl, CallsH.mono (rfour_spec _) ?_⟩
  rintro _ h4 ⟨a4, rfl, k1⟩
  have k := k.add1 k1
  refine ⟨_, _, _, rfl, k.pull1.app T26 und26 (by simp) (Src.slice (k.sl (a := a4)) rfl) (oneC_bytes _) (by omega) fun a5 c5 h5 k => ⟨_, _, _, rfl, _, _, rfl, ?_⟩⟩
  rw [← bytesV_app] at k
  exact k.pull2.drop.pull1.drop
theorem rframe_spec (seg fr : BitVec 32) (r : List UInt8) (hs : Sl h a (bytesV r)) (hl : r.length = l) (hb : l < 4294967296) :
    CallsH Tryd.prog 52 #[u32V seg, u32V fr, .slice a l c] h (fun v h' => ∃ a' c', v = .slice a' (12 + l) c' ∧ St none_ h h' [BV a' (12 + l) c' (frameB seg fr r)]) := by
  refine vf52 _ _ _ _ _ h _ ?_
  unfold F52
  have ew : Value.int .u32 (IntKind.u32.wrap (l : Int)) = u32V (BitVec.ofNat 32 r.length) := by
    unfold u32V
    rw [wrap_u32, hl, BitVec.toNat_ofNat]; congr 1
  rw [ew]
  have k := St.fresh h
  refine CallsH.mono (rsum_spec hs hl (by omega)) ?_
  rintro _ _ ⟨rfl, rfl⟩
  refine ⟨_, rfl, CallsH.mono (rfour_spec _) ?_⟩
  rintro _ h1 ⟨a1, rfl, k1⟩
  have k := k.add1 k1
  refine ⟨_, _, _, rfl, CallsH.mono (rfour_spec (crc r)) ?_⟩
  rintro _ h2 ⟨a2, rfl, k1⟩
  have k := k.add1 k1
  refine ⟨_, _, _, rfl, k.pull1.app T26 und26 (by simp) (Src.slice (k.sl (a := a2)) rfl) (oneC_bytes _) (by omega) fun a3 c3 h3 k => ⟨_, _, _, rfl, CallsH.mono (rthird_spec seg fr (BitVec.ofNat 32 r.length) (crc r)) ?_⟩⟩
  rintro _ h4 ⟨rfl, m⟩
  have k := k.next m
  refine ⟨_, rfl, CallsH.mono (rfour_spec _) ?_⟩
  rintro _ h5 ⟨a4, rfl, k1⟩
  have k := k.add1 k1
  refine ⟨_, _, _, rfl, k.pull1.app T26 und26 (by simp) (Src.slice (k.sl (a := a4)) rfl) (oneC_bytes _) (by omega) fun a5 c5 h6 k => ⟨_, _, _, rfl, ?_⟩⟩
  refine k.app T26 und26 (by simp) (Src.slice (hs.ro.in k).sl (by rw [bytesV_len, hl, Nat.mul_one])) (oneC_bytes _) (by omega) fun a6 c6 h7 k => ⟨_, _, _, rfl, a6, c6, by rw [show 4 + 4 + 4 = 12 from rfl], ?_⟩
  rw [← bytesV_app, ← bytesV_app, ← bytesV_app] at k
  exact k.pull2.drop.pull1.drop
theorem clone_spec (hs : Sl h a (bytesV bs)) (hl : bs.length = l) (hb : l < 140737488355328) : CallsH Tryd.prog 54 #[.slice a l c] h (fun v h' => ∃ a' c', v = .slice a' l c' ∧ St none_ h h' [BV a' l c' bs]) := by
  refine vf54 _ _ _ h _ ?_
  unfold F54
  have k := St.fresh h
  refine cond_split (fun hc => ?_) (fun hc => ?_)
  · have hbs : bs = [] := by
      cases bs with
      | nil => rfl
      | cons b r =>
        obtain ⟨ad, h0, _⟩ := hs 0 (byteV b) rfl
        subst h0; cases hc
    subst hbs
    simp only [List.length_nil] at hl
    subst hl
    exact ⟨_, _, rfl, k.vnil 5 (by omega)⟩
  · refine k.vnew fun b h1 k => ?_
    have k := k.blkvec (sz := 1) (n := 0) rfl (by omega) (by omega)
    refine k.app T26 und26 (by simp) (Src.slice (hs.ro.in k).sl (by rw [bytesV_len, hl, Nat.mul_one])) (oneC_bytes _) (by omega) fun a2 c2 h' k => ⟨_, _, _, rfl, a2, c2, by rw [Nat.zero_add], by rw [Nat.zero_add] at k; exact k⟩
end Go.Proofs.YtbaglaoefaoaoaaDoor.F
