/- The laws of the log: rows of bytes compared, with marks behind them. Conditions: none. -/
import Derived.Test.YtbaglaoefaoaoaaDoorLB
namespace Go.Proofs.YtbaglaoefaoaoaaDoor.F
open Go Go.VC Go.Proofs
set_option linter.unusedSimpArgs false
set_option linter.unusedVariables false
set_option maxRecDepth 100000
attribute [local irreducible] CallsH RunsTo PureTo

variable {S F G : Nat → Prop} {h0 h h1 : Heap} {L R L' : List A} {a b : Option Addr} {l c l2 c2 : Nat} {bs cs : List UInt8} {bss css : List Bytes}
theorem ne_u8 (x y : UInt8) : ((x.toNat : Int) != (y.toNat : Int)) = decide (x ≠ y) := by
  by_cases h : x = y
  · subst h; simp
  · have : x.toNat ≠ y.toNat := fun e => h (UInt8.toNat_inj.1 e)
    have : (x.toNat : Int) ≠ (y.toNat : Int) := by omega
    simp [h, this]
theorem sameBytes_spec (hs : Sl h a (bytesV bs)) (hl : bs.length = l) (ht : Sl h b (bytesV cs)) (hl2 : cs.length = l2) (hb : l < 9223372036854775807) : CallsH Tryd.prog 30 #[.slice a l c, .slice b l2 c2] h (fun v h' => v = .bool (decide (bs = cs)) ∧ h' = h) := by
  refine vf30 _ _ _ _ _ _ h _ ?_
  unfold F30
  refine cond_split (fun hc => ?_) (fun hc => ?_)
  · have hne : (l : Int) ≠ l2 := by simpa using hc
    refine ⟨?_, rfl⟩
    rw [decide_eq_false (fun e => hne (by subst e; omega))]
  have hll : l = l2 := by
    have : (l : Int) = l2 := by simpa using hc
    omega
  subst hll
  clear hc
  refine ⟨fun n hh _ i => ∃ j : Nat, i = j ∧ j ≤ l ∧ n = l - j ∧ hh = h ∧ bs.take j = cs.take j, ⟨_, 0, rfl, by omega, rfl, rfl, rfl⟩, ?_⟩
  rintro n hh _ _ i ⟨j, rfl, hj, rfl, rfl, he⟩
  refine cond_split (fun hc => ?_) (fun hc => ?_)
  · have hjl : j < l := Int.ofNat_lt.1 (of_decide_eq_true hc)
    refine hs.one hl (by omega) (by omega) fun ad x hx hcell => ⟨_, hcell, ht.one hl2 (by omega) (by omega) fun ad2 y hy hcell2 => ⟨_, hcell2, ?_⟩⟩
    rw [Int.toNat_natCast] at hx hy
    rw [ne_u8]
    refine cond_split (fun hd => ?_) (fun hd => ?_)
    · refine ⟨?_, rfl⟩
      rw [decide_eq_false]
      intro e
      subst e
      rw [hx] at hy
      cases hy
      simp at hd
    · have hxy : x = y := by simpa using of_decide_eq_false hd
      refine ⟨_, by omega, j + 1, wrap_nat hjl (by omega), hjl, rfl, rfl, ?_⟩
      rw [take_next hx, take_next hy, he, hxy]
  · have hjl : j = l := by
      have : ¬ (j : Int) < l := of_decide_eq_false hc
      omega
    subst hjl
    rw [List.take_of_length_le (by omega), List.take_of_length_le (by omega)] at he
    exact ⟨by rw [decide_eq_true he], rfl⟩
theorem sameLists_spec (hs : RoL none_ h a l bss) (ht : RoL none_ h b l2 css) (hb : tot bss ≤ 1099511627776) : CallsH Tryd.prog 12 #[.slice a l c, .slice b l2 c2] h (fun v h' => v = .bool (decide (bss = css)) ∧ h' = h) := by
  refine vf12 _ _ _ _ _ _ h _ ?_
  unfold F12
  have hl : bss.length = l := by obtain ⟨_, _, _, _, e⟩ := hs; exact e
  have hl2 : css.length = l2 := by obtain ⟨_, _, _, _, e⟩ := ht; exact e
  have htl := tot_len bss
  refine cond_split (fun hc => ?_) (fun hc => ?_)
  · have hne : (l : Int) ≠ l2 := by simpa using hc
    refine ⟨?_, rfl⟩
    rw [decide_eq_false (fun e => hne (by subst e; omega))]
  have hll : l = l2 := by
    have : (l : Int) = l2 := by simpa using hc
    omega
  subst hll
  clear hc
  refine ⟨fun n hh _ i => ∃ j : Nat, i = j ∧ j ≤ l ∧ n = l - j ∧ hh = h ∧ bss.take j = css.take j, ⟨_, 0, rfl, by omega, rfl, rfl, rfl⟩, ?_⟩
  rintro n hh _ _ i ⟨j, rfl, hj, rfl, rfl, he⟩
  refine cond_split (fun hc => ?_) (fun hc => ?_)
  · have hjl : j < l := Int.ofNat_lt.1 (of_decide_eq_true hc)
    refine hs.one (by omega) (by omega) fun ad x hx hcell r1 r2 r3 => ⟨_, _, _, hcell, ht.one (by omega) (by omega) fun ad2 y hy hcell2 q1 q2 q3 => ⟨_, _, _, hcell2, ?_⟩⟩
    rw [Int.toNat_natCast] at hx hy
    have htx := tot_get hx
    refine CallsH.mono (sameBytes_spec r1.sl r2 q1.sl q2 (by omega)) ?_
    rintro _ _ ⟨rfl, rfl⟩
    refine ⟨_, rfl, cond_split (fun hd => ?_) (fun hd => ?_)⟩
    · refine ⟨?_, rfl⟩
      rw [decide_eq_false]
      intro e
      subst e
      rw [hx] at hy
      have hy := Option.some.inj hy
      simp [hy] at hd
    · have hxy : x.bs = y.bs := by simpa using hd
      refine ⟨_, by omega, j + 1, wrap_nat hjl (by omega), hjl, rfl, rfl, ?_⟩
      rw [take_next hx, take_next hy, he, hxy]
  · have hjl : j = l := by
      have : ¬ (j : Int) < l := of_decide_eq_false hc
      omega
    subst hjl
    rw [List.take_of_length_le (by omega), List.take_of_length_le (by omega)] at he
    exact ⟨by rw [decide_eq_true he], rfl⟩
def marksB (n : Nat) : List UInt8 := (List.range n).map fun i => UInt8.ofNat (181 + i)
def roomB (bs : List UInt8) : List UInt8 := bs ++ marksB 70
theorem marksB_len (n : Nat) : (marksB n).length = n := by simp [marksB]
theorem roomB_len (bs : List UInt8) : (roomB bs).length = bs.length + 70 := by simp [roomB, marksB_len]
theorem app_byte {e : Nat} {x : UInt8} {bb : Nat} (k : St S h0 h (A.blk bb #[byteV x] 5 :: BV a l c bs :: R)) (hb : l + 1 ≤ 140737488355328) {K : KV}
    (q : ∀ a' c' h', St S h0 h' (BV a' (l + 1) c' (bs ++ [x]) :: R) → K (.slice a' (l + 1) c') h') : RunsTo Tryd.prog (Builtin.append_ #[26, 26] 26 #[.slice a l c, .slice (some ⟨bb, 0, none⟩) 1 1]) h K := by
  have hsl : Sl h (some ⟨bb, 0, none⟩) (bytesV [x]) := k.slB (b := bb)
  refine k.pull1.app T26 und26 (by simp) (Src.slice hsl rfl) (oneC_bytes [x]) (by omega) fun a' c' h' k => q a' c' h' ?_
  rw [← bytesV_app] at k
  exact k.pull1.drop
theorem roomy_spec (hs : Sl h a (bytesV bs)) (hl : bs.length = l) (hb : l ≤ 1099511627776) : CallsH Tryd.prog 31 #[.slice a l c] h (fun v h' => ∃ a' c', v = .slice a' (l + 70) c' ∧ St none_ h h' [BV a' (l + 70) c' (roomB bs)]) := by
  refine vf31 _ _ _ h _ ?_
  unfold F31
  have k := St.fresh h
  refine (k.vnil 5 (sz := 1) (by omega)).app T26 und26 (by simp) (Src.slice hs (by rw [bytesV_len, hl, Nat.mul_one])) (oneC_bytes _) (by omega) fun a2 c2 h2 k => ⟨_, _, _, rfl, ?_⟩
  refine ⟨fun n hh p l' c' i => ∃ j : Nat, i = j ∧ j ≤ 70 ∧ n = 70 - j ∧ l' = l + j ∧ St none_ h hh [BV p l' c' (bs ++ marksB j)], ⟨_, 0, rfl, by omega, rfl, by omega, ?_⟩, ?_⟩
  · have e : bs ++ marksB 0 = bs := by simp [marksB]
    rw [e]; rw [Nat.zero_add] at *; exact k
  clear k
  rintro n hh _ p l' c' i ⟨j, rfl, hj, rfl, rfl, k⟩
  refine cond_split (fun hc => ?_) (fun hc => ?_)
  · have hjl : j < 70 := by
      have : (j : Int) < 70 := of_decide_eq_true hc
      omega
    have eb : Value.int .u8 (IntKind.u8.wrap (IntKind.i64.wrap (181 + (j : Int)))) = byteV (UInt8.ofNat (181 + j)) := by
      rw [byteV_of, wrap_u8, wrap_id (by omega) (by omega)]
      congr 1
    rw [eb]
    refine k.vnew fun bb h3 k => ?_
    refine app_byte (e := 0) k (by omega) fun a' c'' h4 k => ⟨_, _, _, rfl, _, ?_, j + 1, wrap_nat hjl (by omega), hjl, rfl, by omega, ?_⟩
    · omega
    · have e : bs ++ marksB (j + 1) = bs ++ marksB j ++ [UInt8.ofNat (181 + j)] := by simp [marksB, List.range_succ]
      rw [e]; exact k
  · have hjl : j = 70 := by
      have : ¬ (j : Int) < 70 := of_decide_eq_false hc
      omega
    subst hjl
    exact ⟨_, _, rfl, k⟩
end Go.Proofs.YtbaglaoefaoaoaaDoor.F
