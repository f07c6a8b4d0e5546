/- Package wire: bytes compared, and the document's reading of a number. Conditions: none. -/
import Derived.Test.YtofaihacmoacjaaDoorW3
import Derived.Test.YtofaihacmoacjaaDoorW4
import Derived.Test.YtofaihacmoacjaaDoorS3
import Derived.Test.YtofaihacmoacjaaDoorGB
namespace Go.Proofs.YtofaihacmoacjaaDoor.F
open Go Go.VC Go.Proofs
set_option linter.unusedSimpArgs false
set_option linter.unusedVariables false
set_option maxRecDepth 100000
attribute [local irreducible] CallsH RunsTo PureTo

variable {S F G : Nat → Prop} {h0 h h1 : Heap} {L R L' : List A} {a b : Option Addr} {l c l2 c2 : Nat} {bs cs : List UInt8}
theorem bytesV_cut (bs : List UInt8) (lo hi : Nat) : ((bytesV bs).take (hi * 1)).drop (lo * 1) = bytesV ((bs.take hi).drop lo) := by
  simp [bytesV, List.map_take, List.map_drop]
theorem cut_len {bs : List UInt8} {lo hi : Nat} (h : hi ≤ bs.length) : ((bs.take hi).drop lo).length = hi - lo := by
  rw [List.length_drop, List.length_take]; omega
/-- A part of some bytes. -/
theorem _root_.Go.VC.Ro.bcut {F : Nat → Prop} (k : Ro F h a (bytesV bs)) (hl : bs.length = l) {lo hi mx : Nat} {x y z : Int} (hx : x = lo) (hy : y = hi) (hz : z = mx) (h1 : lo ≤ hi) (h2 : hi ≤ l) (h3 : hi ≤ mx) (h4 : mx ≤ c) {K : Option Addr → Nat → Nat → Prop}
    (q : ∀ a', Ro F h a' (bytesV ((bs.take hi).drop lo)) → ((bs.take hi).drop lo).length = hi - lo → K a' (hi - lo) (mx - lo)) : VSlice 1 a c x y z K :=
  k.cut (by rw [bytesV_len, hl, Nat.mul_one]) hx hy hz h1 h2 h3 h4 fun a' r hlen => q a' (by rw [← bytesV_cut]; exact r) (cut_len (by omega))
theorem eqStr (bs : List UInt8) (m : List UInt8) : strEq ⟨bs.toArray⟩ ⟨m.toArray⟩ = decide (bs = m) := by
  have e : ∀ l : List UInt8, (ByteArray.mk l.toArray).toList = l := by
    intro l
    rw [ByteArray.toList_eq]
  unfold strEq
  rw [e, e]
  by_cases h : bs = m <;> simp [h]
theorem take_next {α : Type} {xs : List α} {j : Nat} {x : α} (h : xs[j]? = some x) : xs.take (j + 1) = xs.take j ++ [x] := by rw [List.take_add_one, h]; rfl
theorem ne_u8 (x y : UInt8) : ((x.toNat : Int) != (y.toNat : Int)) = decide (x ≠ y) := by
  by_cases h : x = y
  · subst h; simp
  · have : x.toNat ≠ y.toNat := fun e => h (UInt8.toNat_inj.1 e)
    have : (x.toNat : Int) ≠ (y.toNat : Int) := by omega
    simp [h, this]
theorem same_spec (hs : Sl h a (bytesV bs)) (hl : bs.length = l) (ht : Sl h b (bytesV cs)) (hl2 : cs.length = l2) (hb : l < 9223372036854775807) : CallsH Tryd.prog 15 #[.slice a l c, .slice b l2 c2] h (fun v h' => v = .bool (decide (bs = cs)) ∧ h' = h) := by
  refine vf15 _ _ _ _ _ _ h _ ?_
  unfold F15
  refine cond_split (fun hc => ?_) (fun hc => ?_)
  · have hne : (l : Int) ≠ l2 := by simpa using hc
    refine ⟨?_, rfl⟩
    rw [decide_eq_false (fun e => hne (by subst e; omega))]
  have hll : l = l2 := by
    have : (l : Int) = l2 := by simpa using hc
    omega
  subst hll
  clear hc
  refine ⟨fun n hh _ i => ∃ j : Nat, i = j ∧ j ≤ l ∧ n = l - j ∧ hh = h ∧ bs.take j = cs.take j, ⟨_, 0, rfl, by omega, rfl, rfl, rfl⟩, ?_⟩
  rintro n hh _ _ i ⟨j, rfl, hj, rfl, rfl, he⟩
  refine cond_split (fun hc => ?_) (fun hc => ?_)
  · have hjl : j < l := Int.ofNat_lt.1 (of_decide_eq_true hc)
    refine hs.one hl (by omega) (by omega) fun ad x hx hcell => ⟨_, hcell, ht.one hl2 (by omega) (by omega) fun ad2 y hy hcell2 => ⟨_, hcell2, ?_⟩⟩
    rw [Int.toNat_natCast] at hx hy
    rw [ne_u8]
    refine cond_split (fun hd => ?_) (fun hd => ?_)
    · refine ⟨?_, rfl⟩
      rw [decide_eq_false]
      intro e
      subst e
      rw [hx] at hy
      cases hy
      simp at hd
    · have hxy : x = y := by simpa using of_decide_eq_false hd
      refine ⟨_, by omega, j + 1, wrap_nat hjl (by omega), hjl, rfl, rfl, ?_⟩
      rw [take_next hx, take_next hy, he, hxy]
  · have hjl : j = l := by
      have : ¬ (j : Int) < l := of_decide_eq_false hc
      omega
    subst hjl
    rw [List.take_of_length_le (by omega), List.take_of_length_le (by omega)] at he
    exact ⟨by rw [decide_eq_true he], rfl⟩
theorem rsame_spec (hs : Sl h a (bytesV bs)) (hl : bs.length = l) (ht : Sl h b (bytesV cs)) (hl2 : cs.length = l2) (hb : l < 9223372036854775807) : CallsH Tryd.prog 57 #[.slice a l c, .slice b l2 c2] h (fun v h' => v = .bool (decide (bs = cs)) ∧ h' = h) := by
  refine vf57 _ _ _ _ _ _ h _ ?_
  unfold F57
  refine cond_split (fun hc => ?_) (fun hc => ?_)
  · have hne : (l : Int) ≠ l2 := by simpa using hc
    refine ⟨?_, rfl⟩
    rw [decide_eq_false (fun e => hne (by subst e; omega))]
  have hll : l = l2 := by
    have : (l : Int) = l2 := by simpa using hc
    omega
  subst hll
  clear hc
  refine ⟨fun n hh _ i => ∃ j : Nat, i = j ∧ j ≤ l ∧ n = l - j ∧ hh = h ∧ bs.take j = cs.take j, ⟨_, 0, rfl, by omega, rfl, rfl, rfl⟩, ?_⟩
  rintro n hh _ _ i ⟨j, rfl, hj, rfl, rfl, he⟩
  refine cond_split (fun hc => ?_) (fun hc => ?_)
  · have hjl : j < l := Int.ofNat_lt.1 (of_decide_eq_true hc)
    refine hs.one hl (by omega) (by omega) fun ad x hx hcell => ⟨_, hcell, ht.one hl2 (by omega) (by omega) fun ad2 y hy hcell2 => ⟨_, hcell2, ?_⟩⟩
    rw [Int.toNat_natCast] at hx hy
    rw [ne_u8]
    refine cond_split (fun hd => ?_) (fun hd => ?_)
    · refine ⟨?_, rfl⟩
      rw [decide_eq_false]
      intro e
      subst e
      rw [hx] at hy
      cases hy
      simp at hd
    · have hxy : x = y := by simpa using of_decide_eq_false hd
      refine ⟨_, by omega, j + 1, wrap_nat hjl (by omega), hjl, rfl, rfl, ?_⟩
      rw [take_next hx, take_next hy, he, hxy]
  · have hjl : j = l := by
      have : ¬ (j : Int) < l := of_decide_eq_false hc
      omega
    subst hjl
    rw [List.take_of_length_le (by omega), List.take_of_length_le (by omega)] at he
    exact ⟨by rw [decide_eq_true he], rfl⟩
/-! ### The document's reading -/
def gs (bs : Bytes) : Nat → Nat
  | 0 => 0
  | n + 1 => gs bs n + ((bs.getD n 0).toNat % 128) * 128 ^ n
theorem gs_lt (bs : Bytes) : ∀ n, gs bs n < 128 ^ n
  | 0 => by simp [gs]
  | n + 1 => by
    have h1 := gs_lt bs n
    have h2 : (bs.getD n 0).toNat % 128 ≤ 127 := by omega
    have := Nat.mul_le_mul_right (128 ^ n) h2
    rw [gs, Nat.pow_succ]; omega
theorem getD_of {bs : Bytes} {n : Nat} {x : UInt8} (h : bs[n]? = some x) : bs.getD n 0 = x := by simp [List.getD, h]
theorem drop_of {bs : Bytes} {n : Nat} {x : UInt8} (h : bs[n]? = some x) : bs.drop n = x :: bs.drop (n + 1) := by
  obtain ⟨hlt, he⟩ := List.getElem?_eq_some_iff.1 h
  rw [List.drop_eq_getElem_cons hlt, he]
theorem scan (bs : Bytes) : ∀ n, n ≤ 9 → n ≤ bs.length → (∀ i x, i < n → bs[i]? = some x → 128 ≤ x.toNat) → getZ 0 0 bs = getZ n (gs bs n) (bs.drop n)
  | 0, _, _, _ => rfl
  | n + 1, h9, hl, hk => by
    obtain ⟨x, hx⟩ : ∃ x, bs[n]? = some x := ⟨_, List.getElem?_eq_getElem (by omega)⟩
    rw [scan bs n (by omega) (by omega) (fun i x hi => hk i x (by omega)), drop_of hx]
    have := hk n x (by omega) hx
    rw [getZ, if_neg (by omega), if_pos this, gs, getD_of hx]
section
variable {N : Nat} (hlead : ∀ i x, i < N → bs[i]? = some x → 128 ≤ x.toNat)
include hlead
theorem scan_end (h9 : N ≤ 9) (hl : N = bs.length) : getN bs = .err 30 := by
  unfold getN
  rw [scan bs N h9 (by omega) hlead, List.drop_of_length_le (by omega), getZ]
theorem scan_ten (h10 : N = 10) (hl : N ≤ bs.length) : getN bs = .err 31 := by
  subst h10
  obtain ⟨x, hx⟩ : ∃ x, bs[9]? = some x := ⟨_, List.getElem?_eq_getElem (by omega)⟩
  have := hlead 9 x (by omega) hx
  unfold getN
  rw [scan bs 9 (by omega) (by omega) (fun i x hi => hlead i x (by omega)), drop_of hx, getZ, if_pos (by omega)]
theorem scan_nine {x : UInt8} (h9 : N = 9) (hx : bs[9]? = some x) (h1 : 1 < x.toNat) : getN bs = .err 31 := by
  subst h9
  have hlt := (List.getElem?_eq_some_iff.1 hx).1
  unfold getN
  rw [scan bs 9 (by omega) (by omega) hlead, drop_of hx, getZ, if_pos (by omega)]
theorem scan_last {x : UInt8} (h9 : N ≤ 9) (hx : bs[N]? = some x) (h1 : x.toNat < 128) (h91 : N = 9 → x.toNat ≤ 1) : getZ 0 0 bs = if x.toNat = 0 ∧ 0 < N then .err 31 else .ok (gs bs (N + 1)) (N + 1) := by
  have hlt := (List.getElem?_eq_some_iff.1 hx).1
  rw [scan bs N h9 (by omega) hlead, drop_of hx, getZ, if_neg (by omega), if_neg (by omega), gs, getD_of hx, Nat.mod_eq_of_lt h1]
theorem scan_same {x : UInt8} (h9 : N ≤ 9) (hx : bs[N]? = some x) (h1 : x.toNat < 128) (h91 : N = 9 → x.toNat ≤ 1) :
    (if decide (putN (zag (gs bs (N + 1))) = (bs.take (N + 1)).drop 0) then Rd.ok (zag (gs bs (N + 1))) (N + 1) else .err 31) = getN bs := by
  have hlt := (List.getElem?_eq_some_iff.1 hx).1
  have key := scan_last hlead h9 hx h1 h91
  have ep : putN (zag (gs bs (N + 1))) = putZ 9 (gs bs (N + 1)) := by unfold putN; rw [zig_zag]
  rw [ep, List.drop_zero]
  unfold getN
  by_cases h0 : x.toNat = 0 ∧ 0 < N
  · rw [if_pos h0] at key
    rw [key, if_neg]
    intro he
    have he := of_decide_eq_true he
    have h2 : gs bs (N + 1) < 2 * 128 ^ 9 := by
      by_cases h9' : N = 9
      · subst h9'
        have := gs_lt bs 9
        rw [gs, getD_of hx]
        have e2 : x.toNat % 128 ≤ 1 := by omega
        have := Nat.mul_le_mul_right (128 ^ 9) e2
        omega
      · have := gs_lt bs (N + 1)
        have : 128 ^ (N + 1) ≤ 128 ^ 9 := Nat.pow_le_pow_right (by omega) (by omega)
        omega
    have hg := get_put 9 0 (gs bs (N + 1)) 0 [] rfl h2 (fun h => by omega)
    rw [List.append_nil, he] at hg
    have hx' : (bs.take (N + 1))[N]? = some x := by rw [List.getElem?_take, if_pos (by omega), hx]
    have key2 := scan_last (bs := bs.take (N + 1)) (N := N) (fun i y hi hy => hlead i y hi (by rw [List.getElem?_take, if_pos (by omega)] at hy; exact hy)) h9 hx' h1 h91
    rw [if_pos h0] at key2
    rw [key2] at hg
    cases hg
  · rw [if_neg h0] at key
    obtain ⟨z, e1, e2, _, e4, e5⟩ := put_get bs 9 0 0 _ _ rfl key
    have : z = gs bs (N + 1) := by omega
    subst this
    rw [key, if_pos]
    refine decide_eq_true ?_
    rw [← e5]
    congr 1
    omega
end
theorem tail24 {N : Nat} (hs : Sl h a (bytesV bs)) (hl : bs.length = l) (hlc : l ≤ c) (hb : l < 9223372036854775807) (hlead : ∀ i x, i < N → bs[i]? = some x → 128 ≤ x.toNat) {x : UInt8} (h9 : N ≤ 9) (hx : bs[N]? = some x) (h1 : x.toNat < 128) (h91 : N = 9 → x.toNat ≤ 1) {R : KV} (hR : ∀ h', Ext h h' → R (rdV (getN bs)) h') :
    (∃ I183 : Nat → Heap → Int → Int → Int → Prop, (∃ n184, I183 n184 h 0 1 0) ∧
          ∀ (n184 : Nat) (h185 : Heap) (g186 : Env) (z_187 : Int) (times_188 : Int) (i_189 : Int), I183 n184 h185 z_187 times_188 i_189 →
          cond (decide (i_189 ≤ (N : Int)))
          (VIdx a l i_189 1 fun a191 =>
            ∃ x192 : Int, cellH h185 a191 = some (.int .u8 x192) ∧
            (128 : Int) ≠ (0 : Int) ∧
            ∃ m190, m190 < n184 ∧ I183 m190 h185 (IntKind.u64.wrap (z_187 + (IntKind.u64.wrap ((IntKind.u64.wrap (Int.tmod x192 128)) * times_188)))) (IntKind.u64.wrap (times_188 * 128)) (IntKind.i64.wrap (i_189 + 1)))
          ((2 : Int) ≠ (0 : Int) ∧
            ∃ J193 : Heap → Int → Prop, ((2 : Int) ≠ (0 : Int) ∧
              cond ((Int.tmod z_187 2) == (1 : Int))
              (J193 h185 (IntKind.i64.wrap ((IntKind.i64.wrap (0 - (IntKind.i64.wrap (IntKind.u64.wrap (Int.tdiv z_187 2))))) - 1)))
              (J193 h185 (IntKind.i64.wrap (IntKind.u64.wrap (Int.tdiv z_187 2))))) ∧
            ∀ (h194 : Heap) (g195 : Env) (v_196 : Int), J193 h194 v_196 →
            VSlice 1 a c 0 (IntKind.i64.wrap ((N : Int) + 1)) (c : Int) fun a197 la197 ca197 =>
            CallsH Tryd.prog 22 #[.int .i64 v_196] h194 fun v198 h199 =>
            ∃ (a200 : Option Addr) (la200 ca200 : Nat), v198 = .slice a200 la200 ca200 ∧
            CallsH Tryd.prog 57 #[.slice a200 la200 ca200, .slice a197 la197 ca197] h199 fun v201 h202 =>
            ∃ b203 : Bool, v201 = .bool b203 ∧
            cond (!b203)
            (R (.tuple #[.int .i64 0, .int .i64 0, .int .i64 31]) h202)
            (R (.tuple #[.int .i64 v_196, .int .i64 (IntKind.i64.wrap ((N : Int) + 1)), .int .i64 0]) h202))) := by
  have hlt := (List.getElem?_eq_some_iff.1 hx).1
  refine ⟨fun n hh z t i => ∃ j : Nat, i = j ∧ j ≤ N + 1 ∧ n = N + 1 - j ∧ hh = h ∧ z = (gs bs j : Int) ∧ t = ((128 ^ j : Nat) : Int) % 18446744073709551616, ⟨_, 0, rfl, by omega, rfl, rfl, rfl, rfl⟩, ?_⟩
  rintro n hh _ z t i ⟨j, rfl, hj, rfl, rfl, rfl, rfl⟩
  have e9 : (128 : Nat) ^ 9 = 9223372036854775808 := rfl
  refine cond_split (fun hc => ?_) (fun hc => ?_)
  · have hjN : j ≤ N := by
      have : (j : Int) ≤ N := of_decide_eq_true hc
      omega
    refine hs.one (f := byteV) hl (by omega) (by omega) fun ad y hy hcy => ⟨_, hcy, by omega, ?_⟩
    rw [Int.toNat_natCast] at hy
    refine ⟨N + 1 - (j + 1), by omega, j + 1, by rw [wrap_id (by omega) (by omega)]; omega, by omega, rfl, rfl, ?_, ?_⟩
    · have hp9 : 128 ^ j ≤ 128 ^ 9 := Nat.pow_le_pow_right (by omega) (by omega)
      have hgl := gs_lt bs j
      have et : Int.tmod (y.toNat : Int) 128 = ((y.toNat % 128 : Nat) : Int) := rfl
      have hy8 := y.toNat_lt
      have ht : ((128 ^ j : Nat) : Int) % 18446744073709551616 = ((128 ^ j : Nat) : Int) := Int.emod_eq_of_lt (by omega) (by omega)
      have hm : y.toNat % 128 * 128 ^ j ≤ 9223372036854775808 := by
        by_cases h9' : j = 9
        · have e : N = j := by omega
          subst e
          rw [hx] at hy
          cases hy
          have := h91 h9'
          have := Nat.mul_le_mul_right (128 ^ N) (show x.toNat % 128 ≤ 1 by omega)
          omega
        · have h8 : 128 ^ j ≤ 128 ^ 8 := Nat.pow_le_pow_right (by omega) (by omega)
          have e8 : (128 : Nat) ^ 8 = 72057594037927936 := rfl
          have := Nat.mul_le_mul (show y.toNat % 128 ≤ 127 by omega) h8
          omega
      rw [et, ht, wrap_u64, wrap_u64, wrap_u64, Int.emod_eq_of_lt (a := ((y.toNat % 128 : Nat) : Int)) (by omega) (by omega), ← Int.natCast_mul, gs, getD_of hy]
      omega
    · rw [wrap_u64, Nat.pow_succ]
      omega
  · have hjN : j = N + 1 := by
      have : ¬ (j : Int) ≤ N := of_decide_eq_false hc
      omega
    subst hjN
    have h64 : gs bs (N + 1) < 18446744073709551616 := by
      by_cases h9' : N = 9
      · subst h9'
        have := gs_lt bs 9
        rw [gs, getD_of hx]
        have e2 : x.toNat % 128 ≤ 1 := by have := h91 rfl; omega
        have := Nat.mul_le_mul_right (128 ^ 9) e2
        omega
      · have := gs_lt bs (N + 1)
        have : 128 ^ (N + 1) ≤ 128 ^ 9 := Nat.pow_le_pow_right (by omega) (by omega)
        omega
    have key := scan_same hlead h9 hx h1 h91
    generalize gs bs (N + 1) = w at h64 key
    have ed : Int.tdiv (w : Int) 2 = ((w / 2 : Nat) : Int) := rfl
    have em : Int.tmod (w : Int) 2 = ((w % 2 : Nat) : Int) := rfl
    rw [ed, em]
    have e1 : IntKind.i64.wrap (IntKind.u64.wrap ((w / 2 : Nat) : Int)) = ((w / 2 : Nat) : Int) := by
      rw [wrap_u64, wrap_id (by omega) (by omega)]; omega
    rw [e1]
    refine ⟨by omega, fun h' v => h' = hh ∧ v = zag w, ⟨by omega, cond_split (fun hc => ⟨rfl, ?_⟩) (fun hc => ⟨rfl, ?_⟩)⟩, ?_⟩
    · have hw : w % 2 = 1 := by
        have : ((w % 2 : Nat) : Int) = 1 := by simpa using hc
        omega
      rw [wrap_id (n := 0 - ((w / 2 : Nat) : Int)) (by omega) (by omega), wrap_id (by omega) (by omega), zag, if_neg (by omega)]; omega
    · have hw : w % 2 = 0 := by
        have : ((w % 2 : Nat) : Int) ≠ 1 := by simpa using hc
        omega
      rw [zag, if_pos hw]
    rintro _ _ _ ⟨rfl, rfl⟩
    have eN : IntKind.i64.wrap ((N : Int) + 1) = ((N + 1 : Nat) : Int) := by rw [wrap_id (by omega) (by omega)]; omega
    rw [eN]
    refine hs.ro.bcut hl (lo := 0) (hi := N + 1) (mx := c) rfl rfl rfl (by omega) (by omega) (by omega) (by omega) fun a' r hlen => ?_
    have hz := zag_lt h64
    refine CallsH.mono (rputInt_spec hz.1 hz.2) ?_
    rintro _ h2 ⟨a2, c2, rfl, k2⟩
    refine ⟨_, _, _, rfl, ?_⟩
    refine CallsH.mono (rsame_spec (k2.sl (a := a2)) rfl (r.sl.ext k2.ext) hlen (by have := putN_len (zag w); omega)) ?_
    rintro _ _ ⟨rfl, rfl⟩
    refine ⟨_, rfl, ?_⟩
    have hR := hR _ k2.ext
    rw [← key] at hR
    refine cond_split (fun hc => ?_) (fun hc => ?_)
    · rw [if_neg (by simpa using hc)] at hR
      exact hR
    · rw [if_pos (by simpa using hc)] at hR
      exact hR
theorem rint_spec (hs : Sl h a (bytesV bs)) (hl : bs.length = l) (hlc : l ≤ c) (hb : l < 9223372036854775807) : CallsH Tryd.prog 24 #[.slice a l c] h (fun v h' => v = rdV (getN bs) ∧ Ext h h') := by
  refine vf24 _ _ _ h _ ?_
  unfold F24
  refine ⟨fun m hh i => ∃ N : Nat, i = N ∧ N ≤ l ∧ N ≤ 10 ∧ m = l - N ∧ hh = h ∧ ∀ i x, i < N → bs[i]? = some x → 128 ≤ x.toNat, ⟨_, 0, rfl, by omega, by omega, rfl, rfl, fun i x hi => by omega⟩, ?_⟩
  rintro m hh _ i ⟨N, rfl, hN, hN10, rfl, rfl, hlead⟩
  refine cond_split (fun hc => ?_) (fun hc => ?_)
  · have hNl : N < l := Int.ofNat_lt.1 (of_decide_eq_true hc)
    refine cond_split (fun hc2 => ?_) (fun hc2 => ?_)
    · have hN9 : N < 10 := by
        have : (N : Int) < 10 := of_decide_eq_true hc2
        omega
      refine hs.one (f := byteV) hl (by omega) (by omega) fun ad y hy hcy => ⟨_, hcy, ?_⟩
      rw [Int.toNat_natCast] at hy
      refine cond_split (fun hc3 => ?_) (fun hc3 => ?_)
      · have hy1 : 128 ≤ y.toNat := by
          have : (y.toNat : Int) ≥ 128 := of_decide_eq_true hc3
          omega
        refine ⟨l - (N + 1), by omega, N + 1, by rw [wrap_id (by omega) (by omega)]; omega, hNl, by omega, rfl, rfl, fun i x hi hx => ?_⟩
        by_cases hi' : i = N
        · subst hi'
          rw [hy] at hx; cases hx; exact hy1
        · exact hlead i x (by omega) hx
      · have hy1 : y.toNat < 128 := by
          have : ¬ (y.toNat : Int) ≥ 128 := of_decide_eq_false hc3
          omega
        have hstop : N ≠ l → N ≠ 10 → ∃ x, bs[N]? = some x ∧ x.toNat < 128 := fun _ _ => ⟨y, hy, hy1⟩
        refine cond_split (fun h10 => ?_) (fun h10 => ?_)
        · have h10 : N = 10 := by
            have : (N : Int) = 10 := by simpa using h10
            omega
          refine ⟨?_, .refl _ _⟩
          rw [scan_ten hlead h10 (by omega)]; rfl
        have h10 : N ≠ 10 := by
          have : (N : Int) ≠ 10 := by simpa using h10
          omega
        refine cond_split (fun h9 => ?_) (fun h9 => ?_)
        · have h9 : N = 9 := by
            have : (N : Int) = 9 := by simpa using h9
            omega
          refine cond_split (fun hlt => ?_) (fun hlt => ?_)
          · have hlt : N < l := Int.ofNat_lt.1 (of_decide_eq_true hlt)
            refine hs.one (f := byteV) hl (by omega) (by omega) fun ad9 x9 hx9 hc9 => ⟨_, hc9, ?_⟩
            have hx9 : bs[9]? = some x9 := hx9
            refine cond_split (fun h1 => ?_) (fun h1 => ?_)
            · have h1 : 1 < x9.toNat := by
                have : (x9.toNat : Int) > 1 := of_decide_eq_true h1
                omega
              refine ⟨?_, .refl _ _⟩
              rw [scan_nine hlead h9 hx9 h1]; rfl
            · have h1 : ¬ 1 < x9.toNat := by
                have : ¬ (x9.toNat : Int) > 1 := of_decide_eq_false h1
                omega
              have h91 : N = 9 → ∀ x, bs[9]? = some x → x.toNat ≤ 1 := fun _ x hx => by rw [hx9] at hx; cases hx; omega
              refine cond_split (fun hl2 => ?_) (fun hl2 => ?_)
              · have hl2 : N = l := by
                  have : (N : Int) = l := by simpa using hl2
                  omega
                refine ⟨?_, .refl _ _⟩
                rw [scan_end hlead (by omega) (by omega)]; rfl
              · have hl2 : N ≠ l := by
                  have : (N : Int) ≠ l := by simpa using hl2
                  omega
                obtain ⟨x, hx, hx1⟩ := hstop (by omega) (by omega)
                exact tail24 (R := fun v h' => v = rdV (getN bs) ∧ Ext hh h') hs hl hlc hb hlead (by omega) hx hx1 (fun h => h91 h x (by rw [← h]; exact hx)) fun h' m => ⟨rfl, m⟩
          · have hlt : ¬ N < l := fun h => (of_decide_eq_false hlt) (Int.ofNat_lt.2 h)
            have h91 : N = 9 → ∀ x, bs[9]? = some x → x.toNat ≤ 1 := fun _ x hx => by
              have := (List.getElem?_eq_some_iff.1 hx).1
              omega
            refine cond_split (fun hl2 => ?_) (fun hl2 => ?_)
            · have hl2 : N = l := by
                have : (N : Int) = l := by simpa using hl2
                omega
              refine ⟨?_, .refl _ _⟩
              rw [scan_end hlead (by omega) (by omega)]; rfl
            · have hl2 : N ≠ l := by
                have : (N : Int) ≠ l := by simpa using hl2
                omega
              obtain ⟨x, hx, hx1⟩ := hstop (by omega) (by omega)
              exact tail24 (R := fun v h' => v = rdV (getN bs) ∧ Ext hh h') hs hl hlc hb hlead (by omega) hx hx1 (fun h => h91 h x (by rw [← h]; exact hx)) fun h' m => ⟨rfl, m⟩
        · have h9 : N ≠ 9 := by
            have : (N : Int) ≠ 9 := by simpa using h9
            omega
          have h91 : N = 9 → ∀ x, bs[9]? = some x → x.toNat ≤ 1 := fun h => absurd h h9
          refine cond_split (fun hl2 => ?_) (fun hl2 => ?_)
          · have hl2 : N = l := by
              have : (N : Int) = l := by simpa using hl2
              omega
            refine ⟨?_, .refl _ _⟩
            rw [scan_end hlead (by omega) (by omega)]; rfl
          · have hl2 : N ≠ l := by
              have : (N : Int) ≠ l := by simpa using hl2
              omega
            obtain ⟨x, hx, hx1⟩ := hstop (by omega) (by omega)
            exact tail24 (R := fun v h' => v = rdV (getN bs) ∧ Ext hh h') hs hl hlc hb hlead (by omega) hx hx1 (fun h => h91 h x (by rw [← h]; exact hx)) fun h' m => ⟨rfl, m⟩
    · have hN9 : ¬ N < 10 := by
        have : ¬ (N : Int) < 10 := of_decide_eq_false hc2
        omega
      have hstop : N ≠ l → N ≠ 10 → ∃ x, bs[N]? = some x ∧ x.toNat < 128 := fun _ h => by omega
      refine cond_split (fun h10 => ?_) (fun h10 => ?_)
      · have h10 : N = 10 := by
          have : (N : Int) = 10 := by simpa using h10
          omega
        refine ⟨?_, .refl _ _⟩
        rw [scan_ten hlead h10 (by omega)]; rfl
      have h10 : N ≠ 10 := by
        have : (N : Int) ≠ 10 := by simpa using h10
        omega
      refine cond_split (fun h9 => ?_) (fun h9 => ?_)
      · have h9 : N = 9 := by
          have : (N : Int) = 9 := by simpa using h9
          omega
        refine cond_split (fun hlt => ?_) (fun hlt => ?_)
        · have hlt : N < l := Int.ofNat_lt.1 (of_decide_eq_true hlt)
          refine hs.one (f := byteV) hl (by omega) (by omega) fun ad9 x9 hx9 hc9 => ⟨_, hc9, ?_⟩
          have hx9 : bs[9]? = some x9 := hx9
          refine cond_split (fun h1 => ?_) (fun h1 => ?_)
          · have h1 : 1 < x9.toNat := by
              have : (x9.toNat : Int) > 1 := of_decide_eq_true h1
              omega
            refine ⟨?_, .refl _ _⟩
            rw [scan_nine hlead h9 hx9 h1]; rfl
          · have h1 : ¬ 1 < x9.toNat := by
              have : ¬ (x9.toNat : Int) > 1 := of_decide_eq_false h1
              omega
            have h91 : N = 9 → ∀ x, bs[9]? = some x → x.toNat ≤ 1 := fun _ x hx => by rw [hx9] at hx; cases hx; omega
            refine cond_split (fun hl2 => ?_) (fun hl2 => ?_)
            · have hl2 : N = l := by
                have : (N : Int) = l := by simpa using hl2
                omega
              refine ⟨?_, .refl _ _⟩
              rw [scan_end hlead (by omega) (by omega)]; rfl
            · have hl2 : N ≠ l := by
                have : (N : Int) ≠ l := by simpa using hl2
                omega
              obtain ⟨x, hx, hx1⟩ := hstop (by omega) (by omega)
              exact tail24 (R := fun v h' => v = rdV (getN bs) ∧ Ext hh h') hs hl hlc hb hlead (by omega) hx hx1 (fun h => h91 h x (by rw [← h]; exact hx)) fun h' m => ⟨rfl, m⟩
        · have hlt : ¬ N < l := fun h => (of_decide_eq_false hlt) (Int.ofNat_lt.2 h)
          have h91 : N = 9 → ∀ x, bs[9]? = some x → x.toNat ≤ 1 := fun _ x hx => by
            have := (List.getElem?_eq_some_iff.1 hx).1
            omega
          refine cond_split (fun hl2 => ?_) (fun hl2 => ?_)
          · have hl2 : N = l := by
              have : (N : Int) = l := by simpa using hl2
              omega
            refine ⟨?_, .refl _ _⟩
            rw [scan_end hlead (by omega) (by omega)]; rfl
          · have hl2 : N ≠ l := by
              have : (N : Int) ≠ l := by simpa using hl2
              omega
            obtain ⟨x, hx, hx1⟩ := hstop (by omega) (by omega)
            exact tail24 (R := fun v h' => v = rdV (getN bs) ∧ Ext hh h') hs hl hlc hb hlead (by omega) hx hx1 (fun h => h91 h x (by rw [← h]; exact hx)) fun h' m => ⟨rfl, m⟩
      · have h9 : N ≠ 9 := by
          have : (N : Int) ≠ 9 := by simpa using h9
          omega
        have h91 : N = 9 → ∀ x, bs[9]? = some x → x.toNat ≤ 1 := fun h => absurd h h9
        refine cond_split (fun hl2 => ?_) (fun hl2 => ?_)
        · have hl2 : N = l := by
            have : (N : Int) = l := by simpa using hl2
            omega
          refine ⟨?_, .refl _ _⟩
          rw [scan_end hlead (by omega) (by omega)]; rfl
        · have hl2 : N ≠ l := by
            have : (N : Int) ≠ l := by simpa using hl2
            omega
          obtain ⟨x, hx, hx1⟩ := hstop (by omega) (by omega)
          exact tail24 (R := fun v h' => v = rdV (getN bs) ∧ Ext hh h') hs hl hlc hb hlead (by omega) hx hx1 (fun h => h91 h x (by rw [← h]; exact hx)) fun h' m => ⟨rfl, m⟩
  · have hNl : ¬ N < l := fun h => (of_decide_eq_false hc) (Int.ofNat_lt.2 h)
    have hstop : N ≠ l → N ≠ 10 → ∃ x, bs[N]? = some x ∧ x.toNat < 128 := fun h => by omega
    refine cond_split (fun h10 => ?_) (fun h10 => ?_)
    · have h10 : N = 10 := by
        have : (N : Int) = 10 := by simpa using h10
        omega
      refine ⟨?_, .refl _ _⟩
      rw [scan_ten hlead h10 (by omega)]; rfl
    have h10 : N ≠ 10 := by
      have : (N : Int) ≠ 10 := by simpa using h10
      omega
    refine cond_split (fun h9 => ?_) (fun h9 => ?_)
    · have h9 : N = 9 := by
        have : (N : Int) = 9 := by simpa using h9
        omega
      refine cond_split (fun hlt => ?_) (fun hlt => ?_)
      · have hlt : N < l := Int.ofNat_lt.1 (of_decide_eq_true hlt)
        refine hs.one (f := byteV) hl (by omega) (by omega) fun ad9 x9 hx9 hc9 => ⟨_, hc9, ?_⟩
        have hx9 : bs[9]? = some x9 := hx9
        refine cond_split (fun h1 => ?_) (fun h1 => ?_)
        · have h1 : 1 < x9.toNat := by
            have : (x9.toNat : Int) > 1 := of_decide_eq_true h1
            omega
          refine ⟨?_, .refl _ _⟩
          rw [scan_nine hlead h9 hx9 h1]; rfl
        · have h1 : ¬ 1 < x9.toNat := by
            have : ¬ (x9.toNat : Int) > 1 := of_decide_eq_false h1
            omega
          have h91 : N = 9 → ∀ x, bs[9]? = some x → x.toNat ≤ 1 := fun _ x hx => by rw [hx9] at hx; cases hx; omega
          refine cond_split (fun hl2 => ?_) (fun hl2 => ?_)
          · have hl2 : N = l := by
              have : (N : Int) = l := by simpa using hl2
              omega
            refine ⟨?_, .refl _ _⟩
            rw [scan_end hlead (by omega) (by omega)]; rfl
          · have hl2 : N ≠ l := by
              have : (N : Int) ≠ l := by simpa using hl2
              omega
            obtain ⟨x, hx, hx1⟩ := hstop (by omega) (by omega)
            exact tail24 (R := fun v h' => v = rdV (getN bs) ∧ Ext hh h') hs hl hlc hb hlead (by omega) hx hx1 (fun h => h91 h x (by rw [← h]; exact hx)) fun h' m => ⟨rfl, m⟩
      · have hlt : ¬ N < l := fun h => (of_decide_eq_false hlt) (Int.ofNat_lt.2 h)
        have h91 : N = 9 → ∀ x, bs[9]? = some x → x.toNat ≤ 1 := fun _ x hx => by
          have := (List.getElem?_eq_some_iff.1 hx).1
          omega
        refine cond_split (fun hl2 => ?_) (fun hl2 => ?_)
        · have hl2 : N = l := by
            have : (N : Int) = l := by simpa using hl2
            omega
          refine ⟨?_, .refl _ _⟩
          rw [scan_end hlead (by omega) (by omega)]; rfl
        · have hl2 : N ≠ l := by
            have : (N : Int) ≠ l := by simpa using hl2
            omega
          obtain ⟨x, hx, hx1⟩ := hstop (by omega) (by omega)
          exact tail24 (R := fun v h' => v = rdV (getN bs) ∧ Ext hh h') hs hl hlc hb hlead (by omega) hx hx1 (fun h => h91 h x (by rw [← h]; exact hx)) fun h' m => ⟨rfl, m⟩
    · have h9 : N ≠ 9 := by
        have : (N : Int) ≠ 9 := by simpa using h9
        omega
      have h91 : N = 9 → ∀ x, bs[9]? = some x → x.toNat ≤ 1 := fun h => absurd h h9
      refine cond_split (fun hl2 => ?_) (fun hl2 => ?_)
      · have hl2 : N = l := by
          have : (N : Int) = l := by simpa using hl2
          omega
        refine ⟨?_, .refl _ _⟩
        rw [scan_end hlead (by omega) (by omega)]; rfl
      · have hl2 : N ≠ l := by
          have : (N : Int) ≠ l := by simpa using hl2
          omega
        obtain ⟨x, hx, hx1⟩ := hstop (by omega) (by omega)
        exact tail24 (R := fun v h' => v = rdV (getN bs) ∧ Ext hh h') hs hl hlc hb hlead (by omega) hx hx1 (fun h => h91 h x (by rw [← h]; exact hx)) fun h' m => ⟨rfl, m⟩
end Go.Proofs.YtofaihacmoacjaaDoor.F
