/- Package wire, and the document's: batches are written and read. Conditions: none. -/
import Derived.Test.YtofaihacmoacjaaDoorWH
import Derived.ChangeKeysEq
import Derived.Laws.Cover3
namespace Go.Proofs.YtofaihacmoacjaaDoor.F
open Go Go.VC Go.Proofs
set_option linter.unusedSimpArgs false
set_option linter.unusedVariables false
set_option maxRecDepth 100000
attribute [local irreducible] CallsH RunsTo PureTo

variable {S F G : Nat → Prop} {h0 h h1 : Heap} {L R L' : List A} {a b : Option Addr} {l c l2 c2 p t at_ : Nat} {bs cs : List UInt8} {bss css : List Bytes} {e : Ev} {v : Val} {es fs : List Ev}
/-! ### Sums -/
abbrev aggB (b : Bytes) : Value := .agg (bytesV b).toArray
theorem sum_step {s : Nat × Nat} (x : UInt8) (h1 : s.1 < 65521) (h2 : s.2 < 65521) :
    Int.tmod (IntKind.i64.wrap ((s.1 : Int) + IntKind.i64.wrap (x.toNat : Int))) 65521 = ((sumStep s x).1 : Int) ∧ Int.tmod (IntKind.i64.wrap ((s.2 : Int) + ((sumStep s x).1 : Int))) 65521 = ((sumStep s x).2 : Int) := by
  have hx := x.toNat_lt
  have h3 := (sumStep_lt s x).1
  constructor
  · rw [wrap_id (n := (x.toNat : Int)) (by omega) (by omega), wrap_id (by omega) (by omega)]
    have : (s.1 : Int) + (x.toNat : Int) = ((s.1 + x.toNat : Nat) : Int) := by omega
    rw [this]; rfl
  · rw [wrap_id (by omega) (by omega)]
    have : (s.2 : Int) + ((sumStep s x).1 : Int) = ((s.2 + (sumStep s x).1 : Nat) : Int) := by omega
    rw [this]; rfl
theorem sum_spec (hs : Sl h a (bytesV bs)) (hl : bs.length = l) (hb : l < 9223372036854775807) : CallsH Tryd.prog 58 #[.slice a l c] h (fun v h' => v = aggB (sumB bs) ∧ Ext h h') := by
  refine vf58 _ _ _ h _ ?_
  unfold F58
  refine (St.fresh h).vnew fun b1 h2 k => ?_
  refine ⟨fun n hh p q i => ∃ j : Nat, i = j ∧ j ≤ l ∧ n = l - j ∧ p = ((sums (bs.take j)).1 : Int) ∧ q = ((sums (bs.take j)).2 : Int) ∧ hh = h2, ⟨_, 0, rfl, by omega, rfl, rfl, rfl, rfl⟩, ?_⟩
  rintro n hh _ _ _ i ⟨j, rfl, hj, rfl, rfl, rfl, rfl⟩
  refine cond_split (fun hc => ?_) (fun hc => ?_)
  · have hjl : j < l := Int.ofNat_lt.1 (of_decide_eq_true hc)
    refine (hs.ext k.ext).one (f := byteV) hl (by omega) (by omega) fun ad x hx hcx => ⟨_, hcx, by omega, by omega, l - (j + 1), by omega, j + 1, wrap_nat hjl (by omega), hjl, rfl, ?_, ?_, rfl⟩
    · rw [Int.toNat_natCast] at hx
      rw [sums_next hx]
      exact (sum_step x (sums_lt _).1 (sums_lt _).2).1
    · rw [Int.toNat_natCast] at hx
      rw [sums_next hx]
      have h3 := sum_step x (sums_lt (bs.take j)).1 (sums_lt (bs.take j)).2
      rw [h3.1]
      exact h3.2
  · have hjl : j = l := by
      have : ¬ (j : Int) < l := of_decide_eq_false hc
      omega
    subst hjl
    rw [List.take_of_length_le (by omega)]
    have hlt := sums_lt bs
    have e8 : (2 : Int) ^ (min (Int.toNat 8) (IntKind.bits .i64)) = 256 := rfl
    rw [e8]
    have h8 : ∀ n : Nat, n < 65521 → (.int .u8 (IntKind.u8.wrap (Int.fdiv (n : Int) 256)) : Value) = byteV (UInt8.ofNat (n / 256)) := fun n hn => by
      rw [byteV_of, wrap_u8, Int.fdiv_eq_ediv_of_nonneg _ (by omega)]
      congr 1
    have h0 : ∀ n : Nat, (.int .u8 (IntKind.u8.wrap (n : Int)) : Value) = byteV (UInt8.ofNat n) := fun n => by
      rw [byteV_of, wrap_u8]
    rw [h8 _ hlt.2, h8 _ hlt.1, h0, h0]
    refine ⟨by omega, by omega, k.vall (vs := bytesV (sumB bs)) (by rfl) (by rfl) fun h13 k => ⟨_, k.rd (by rfl), _, k.rd (by rfl), _, k.rd (by rfl), _, k.rd (by rfl), rfl, k.ext⟩⟩
theorem rsum_spec (hs : Sl h a (bytesV bs)) (hl : bs.length = l) (hb : l < 9223372036854775807) : CallsH Tryd.prog 59 #[.slice a l c] h (fun v h' => ∃ a', v = .slice a' 4 4 ∧ St none_ h h' [BV a' 4 4 (sumB bs)]) := by
  refine vf59 _ _ _ h _ ?_
  unfold F59
  refine ⟨fun n hh p q i => ∃ j : Nat, i = j ∧ j ≤ l ∧ n = l - j ∧ p = ((sums (bs.take j)).1 : Int) ∧ q = ((sums (bs.take j)).2 : Int) ∧ hh = h, ⟨_, 0, rfl, by omega, rfl, rfl, rfl, rfl⟩, ?_⟩
  rintro n hh _ _ _ i ⟨j, rfl, hj, rfl, rfl, rfl, rfl⟩
  refine cond_split (fun hc => ?_) (fun hc => ?_)
  · have hjl : j < l := Int.ofNat_lt.1 (of_decide_eq_true hc)
    refine hs.one (f := byteV) hl (by omega) (by omega) fun ad x hx hcx => ⟨_, hcx, by omega, by omega, l - (j + 1), by omega, j + 1, wrap_nat hjl (by omega), hjl, rfl, ?_, ?_, rfl⟩
    · rw [Int.toNat_natCast] at hx
      rw [sums_next hx]
      exact (sum_step x (sums_lt _).1 (sums_lt _).2).1
    · rw [Int.toNat_natCast] at hx
      rw [sums_next hx]
      have h3 := sum_step x (sums_lt (bs.take j)).1 (sums_lt (bs.take j)).2
      rw [h3.1]
      exact h3.2
  · have hjl : j = l := by
      have : ¬ (j : Int) < l := of_decide_eq_false hc
      omega
    subst hjl
    rw [List.take_of_length_le (by omega)]
    have hlt := sums_lt bs
    have h8 : ∀ n : Nat, n < 65521 → (.int .u8 (IntKind.u8.wrap (IntKind.i64.wrap (Int.tdiv (n : Int) 256))) : Value) = byteV (UInt8.ofNat (n / 256)) := fun n hn => by
      have e : Int.tdiv (n : Int) 256 = ((n / 256 : Nat) : Int) := rfl
      rw [byteV_of, e, wrap_id (by omega) (by omega), wrap_u8]
    have h0 : ∀ n : Nat, (.int .u8 (IntKind.u8.wrap (Int.tmod (n : Int) 256)) : Value) = byteV (UInt8.ofNat n) := fun n => by
      have e : Int.tmod (n : Int) 256 = ((n % 256 : Nat) : Int) := rfl
      rw [byteV_of, e, wrap_u8]
      congr 1; omega
    rw [h8 _ hlt.2, h8 _ hlt.1, h0, h0]
    refine ⟨by omega, by omega, by omega, by omega, (St.fresh hh).vnew (cs := (bytesV (sumB bs)).toArray) fun b11 h12 k => ⟨_, rfl, ?_⟩⟩
    exact k.blkvec (n := 4) (sz := 1) rfl (by omega) (by omega)
/-! ### Writing -/
/-- An element of events that others held before. -/
theorem RoE.old (k : RoE none_ h0 a l es) (s : Ext h0 h) {i : Int} {K : Addr → Prop} (h1 : 0 ≤ i) (hi : i < l)
    (q : ∀ ad (x : Se), es[i.toNat]? = some x.e → cellH h ad = some (.string (bA x.e.t)) → cellH h ⟨ad.block, ad.off + 1, none⟩ = some (.int .i64 x.e.tm) → cellH h ⟨ad.block, ad.off + 2, none⟩ = some (.slice x.a x.e.vs.length x.c) → EvRo none_ h0 x.a x.e.vs.length x.e → K ad) : VIdx a l i 3 K := by
  obtain ⟨xs, q1, q2, q3, q4⟩ := k
  have hl : xs.length = l := by rw [← q4, ← q3, List.length_map]
  refine (q1.sl.ext s).row seV_len (by omega) hl h1 hi fun ad x hx hc => q ad x ?_ (hc 0 _ rfl) (hc 1 _ rfl) (hc 2 _ rfl) (q2 x (List.mem_of_getElem? hx))
  rw [← q3, List.getElem?_map, hx]; rfl
theorem packR_len (es : List Ev) : (packR es).1.length ≤ 1048576 := by
  unfold packR
  split
  · simp
  split
  · simp
  split
  · simp
  · rw [List.length_append]
    have : (sumB (bodyB es)).length = 4 := rfl
    omega
theorem pack_spec (hw : Wd none_ h) (he : RoE none_ h a l es) (hb : ∀ e ∈ es, e.vs.length ≤ 4398046511104) : CallsH Tryd.prog 28 #[.slice a l c] h
    (fun v h' => ∃ a' c', v = .tuple #[.slice a' (packR es).1.length c', .int .i64 (packR es).2] ∧ St none_ h h' [BV a' (packR es).1.length c' (packR es).1]) := by
  refine vf28 _ _ _ h _ ?_
  unfold F28
  have k := St.fresh h
  have hl : es.length = l := by obtain ⟨_, _, _, _, e⟩ := he; exact e
  have bad : ∀ {h' : Heap} {L : List A} (f : Int), St none_ h h' L → packR es = ([], f) → ∃ a' c', (Value.tuple #[.slice none 0 0, .int .i64 f]) = .tuple #[.slice a' (packR es).1.length c', .int .i64 (packR es).2] ∧ St none_ h h' [BV a' (packR es).1.length c' (packR es).1] := fun f k e1 => by
    rw [e1]
    exact ⟨none, 0, rfl, (k.vnil 5 (sz := 1) (by omega)).re (y := BV none 0 0 []) rfl |>.only⟩
  refine cond_split (fun hc => ?_) (fun hc => ?_)
  · have hc : 1024 < es.length := by
      have : (l : Int) > 1024 := of_decide_eq_true hc
      omega
    exact bad 2 k (by unfold packR; rw [if_pos hc])
  have h1024 : ¬ 1024 < es.length := by
    have : ¬ (l : Int) > 1024 := of_decide_eq_false hc
    omega
  clear hc
  have k := (k.vnil 5 (sz := 1) (by omega)).re (y := BV none 0 0 []) rfl
  obtain ⟨F', G, k1, kG, d, hF, back⟩ := k.frameA
  refine CallsH.mono (putInt_spec (n := (l : Int)) k1 (by omega) (by omega) (by omega)) ?_
  rintro _ h2 ⟨a3, c3, rfl, k2⟩
  have k := back k2
  clear back k1 kG d hF
  have pl := putN_len l
  rw [Nat.zero_add, List.nil_append] at k
  refine ⟨_, _, _, rfl, ?_⟩
  refine ⟨fun n hh _ _ _ _ b' lb cb i => ∃ j : Nat, i = j ∧ j ≤ l ∧ n = l - j ∧ lb = (putN l).length + ((es.take j).flatMap encE).length ∧ faultEs (es.take j) = 0 ∧ St none_ h hh [BV b' lb cb (putN l ++ (es.take j).flatMap encE)], ⟨_, 0, rfl, by omega, rfl, by simp, rfl, by simpa using k⟩, ?_⟩
  clear k
  rintro n hh _ _ _ _ _ b' lb cb i ⟨j, rfl, hj, rfl, rfl, hf0, k⟩
  have htl := take_enc_le hf0 (by omega)
  refine cond_split (fun hc => ?_) (fun hc => ?_)
  · have hjl : j < l := Int.ofNat_lt.1 (of_decide_eq_true hc)
    refine he.old k.ext (by omega) (by omega) fun ad x hx c0 c1 c3 kx => ⟨_, c0, _, c1, _, _, _, c3, ?_⟩
    rw [Int.toNat_natCast] at hx
    have hxb := hb _ (List.mem_of_getElem? hx)
    refine k.vnew fun b17 h18 k => k.vall (by rfl) (by rfl) fun h19 k => ⟨_, k.rd (by rfl), _, k.rd (by rfl), _, _, _, k.rd (by rfl), ?_⟩
    refine CallsH.mono (fault_spec (e := x.e) (hw.in k) (kx.in k) hxb) ?_
    rintro _ h24 ⟨rfl, m⟩
    have k := k.next m
    refine ⟨_, rfl, cond_split (fun hc => ?_) (fun hc => ?_)⟩
    · have hc : faultE x.e ≠ 0 := by simpa using hc
      have hfx := fault_take hx hf0 hc
      refine bad (faultE x.e) k ?_
      unfold packR
      rw [if_neg h1024, hfx, if_pos hc]
    have hc : faultE x.e = 0 := by simpa using hc
    refine ⟨_, k.rd (by rfl), _, k.rd (by rfl), _, _, _, k.rd (by rfl), ?_⟩
    obtain ⟨F', G, k1, kG, d, hF, back⟩ := k.pull1.frameA
    refine CallsH.mono (put_spec (e := x.e) k1 (kx.at k.ext hF) hc (by omega)) ?_
    rintro _ h30 ⟨a31, c31, rfl, k2⟩
    have k := (back k2).only
    refine ⟨_, _, _, rfl, _, by omega, j + 1, wrap_nat hjl (by omega), hjl, rfl, ?_, fault_next hx hf0 hc, ?_⟩
    · rw [flat_next hx, List.length_append]; omega
    · rw [flat_next hx, ← List.append_assoc]; exact k
  · have hjl : j = l := by
      have : ¬ (j : Int) < l := of_decide_eq_false hc
      omega
    subst hjl
    rw [List.take_of_length_le (by omega)] at k hf0 htl ⊢
    have eb : bodyB es = putN j ++ es.flatMap encE := by unfold bodyB; rw [hl]
    have elen : (bodyB es).length = (putN j).length + (es.flatMap encE).length := by rw [eb, List.length_append]
    rw [← eb, ← elen] at k
    rw [← elen]
    have ew : IntKind.i64.wrap (((bodyB es).length : Int) + 4) = (((bodyB es).length + 4 : Nat) : Int) := by rw [wrap_id (by omega) (by omega)]; omega
    rw [ew]
    refine cond_split (fun hc => ?_) (fun hc => ?_)
    · have hc : 1048576 < (bodyB es).length + 4 := by
        have : (((bodyB es).length + 4 : Nat) : Int) > 1048576 := of_decide_eq_true hc
        omega
      exact bad 2 k (by unfold packR; rw [if_neg h1024, if_neg (by simp [hf0]), if_pos hc])
    have hc : ¬ 1048576 < (bodyB es).length + 4 := by
      have : ¬ (((bodyB es).length + 4 : Nat) : Int) > 1048576 := of_decide_eq_false hc
      omega
    have ep : packR es = (bodyB es ++ sumB (bodyB es), 0) := by unfold packR; rw [if_neg h1024, if_neg (by simp [hf0]), if_neg hc]
    refine CallsH.mono (sum_spec (k.sl (a := b')) rfl (by omega)) ?_
    rintro _ h33 ⟨rfl, m⟩
    have k := k.next m
    refine ⟨_, _, _, _, rfl, k.vnew fun b38 h39 k => k.vall (vs := bytesV (sumB (bodyB es))) (by rfl) (by rfl) fun h40 k => whole_cut (lo := 0) (hi := 4) (mx := 4) (by omega) ?_⟩
    have hsl : Sl h40 (some ⟨b38, 0, none⟩) (bytesV (sumB (bodyB es))) := k.slB (b := b38)
    refine app_bytes (s := sumB (bodyB es)) k.pull1 hsl (by show _ + 4 ≤ _; omega) fun a44 c44 h43 k => ⟨_, _, _, rfl, ?_⟩
    rw [ep]
    refine ⟨a44, c44, ?_, ?_⟩
    · rw [List.length_append]
    · rw [List.length_append]; exact k.only
theorem rpack_spec (he : RoE none_ h a l es) (hb : ∀ e ∈ es, e.vs.length ≤ 4398046511104) : CallsH Tryd.prog 29 #[.slice a l c] h
    (fun v h' => ∃ a' c', v = .tuple #[.slice a' (packR es).1.length c', .int .i64 (packR es).2] ∧ St none_ h h' [BV a' (packR es).1.length c' (packR es).1]) := by
  refine vf29 _ _ _ h _ ?_
  unfold F29
  have k := St.fresh h
  have hl : es.length = l := by obtain ⟨_, _, _, _, e⟩ := he; exact e
  have bad : ∀ {h' : Heap} {L : List A} (f : Int), St none_ h h' L → packR es = ([], f) → ∃ a' c', (Value.tuple #[.slice none 0 0, .int .i64 f]) = .tuple #[.slice a' (packR es).1.length c', .int .i64 (packR es).2] ∧ St none_ h h' [BV a' (packR es).1.length c' (packR es).1] := fun f k e1 => by
    rw [e1]
    exact ⟨none, 0, rfl, (k.vnil 5 (sz := 1) (by omega)).re (y := BV none 0 0 []) rfl |>.only⟩
  refine cond_split (fun hc => ?_) (fun hc => ?_)
  · have hc : 1024 < es.length := by
      have : (l : Int) > 1024 := of_decide_eq_true hc
      omega
    exact bad 2 k (by unfold packR; rw [if_pos hc])
  have h1024 : ¬ 1024 < es.length := by
    have : ¬ (l : Int) > 1024 := of_decide_eq_false hc
    omega
  clear hc
  refine CallsH.mono (rputInt_spec (n := (l : Int)) (by omega) (by omega)) ?_
  rintro _ h2 ⟨a3, c3, rfl, k⟩
  have pl := putN_len l
  refine ⟨_, _, _, rfl, ?_⟩
  refine ⟨fun n hh _ _ _ _ b' lb cb i => ∃ j : Nat, i = j ∧ j ≤ l ∧ n = l - j ∧ lb = (putN l).length + ((es.take j).flatMap encE).length ∧ faultEs (es.take j) = 0 ∧ St none_ h hh [BV b' lb cb (putN l ++ (es.take j).flatMap encE)], ⟨_, 0, rfl, by omega, rfl, by simp, rfl, by simpa using k⟩, ?_⟩
  clear k
  rintro n hh _ _ _ _ _ b' lb cb i ⟨j, rfl, hj, rfl, rfl, hf0, k⟩
  have htl := take_enc_le hf0 (by omega)
  refine cond_split (fun hc => ?_) (fun hc => ?_)
  · have hjl : j < l := Int.ofNat_lt.1 (of_decide_eq_true hc)
    refine he.old k.ext (by omega) (by omega) fun ad x hx c0 c1 c3 kx => ⟨_, c0, _, c1, _, _, _, c3, ?_⟩
    rw [Int.toNat_natCast] at hx
    have hxb := hb _ (List.mem_of_getElem? hx)
    refine CallsH.mono (rencode_spec (e := x.e) (kx.in k) hxb) ?_
    rintro _ h18 ⟨a19, c19, rfl, k2⟩
    have k := k.add1 k2
    refine ⟨_, _, _, _, rfl, cond_split (fun hc => ?_) (fun hc => ?_)⟩
    · have hc : faultE x.e ≠ 0 := by simpa using hc
      have hfx := fault_take hx hf0 hc
      refine bad (faultE x.e) k ?_
      unfold packR
      rw [if_neg h1024, hfx, if_pos hc]
    have hc : faultE x.e = 0 := by simpa using hc
    have ee : encF x.e = encE x.e := by unfold encF; rw [if_pos hc]
    rw [ee] at k ⊢
    have := encE_len hc
    refine app_bytes (s := encE x.e) k.pull1 (k.sl (a := a19)) (by omega) fun a23 c23 h22 k => ⟨_, _, _, rfl, _, by omega, j + 1, wrap_nat hjl (by omega), hjl, rfl, ?_, fault_next hx hf0 hc, ?_⟩
    · rw [flat_next hx, List.length_append]; omega
    · rw [flat_next hx, ← List.append_assoc]; exact k.only
  · have hjl : j = l := by
      have : ¬ (j : Int) < l := of_decide_eq_false hc
      omega
    subst hjl
    rw [List.take_of_length_le (by omega)] at k hf0 htl ⊢
    have eb : bodyB es = putN j ++ es.flatMap encE := by unfold bodyB; rw [hl]
    have elen : (bodyB es).length = (putN j).length + (es.flatMap encE).length := by rw [eb, List.length_append]
    rw [← eb, ← elen] at k
    rw [← elen]
    refine CallsH.mono (rsum_spec (k.sl (a := b')) rfl (by omega)) ?_
    rintro _ h33 ⟨a26, rfl, k2⟩
    have k := k.add1 k2
    refine ⟨_, _, _, rfl, ?_⟩
    refine app_bytes (s := sumB (bodyB es)) k.pull1 (k.sl (a := a26)) (by show _ + 4 ≤ _; omega) fun a44 c44 h43 k => ⟨_, _, _, rfl, ?_⟩
    have es4 : (sumB (bodyB es)).length = 4 := rfl
    refine cond_split (fun hc => ?_) (fun hc => ?_)
    · have hc : 1048576 < (bodyB es).length + 4 := by
        have : (((bodyB es).length + (sumB (bodyB es)).length : Nat) : Int) > 1048576 := of_decide_eq_true hc
        omega
      exact bad 2 k (by unfold packR; rw [if_neg h1024, if_neg (by simp [hf0]), if_pos hc])
    have hc : ¬ 1048576 < (bodyB es).length + 4 := by
      have : ¬ (((bodyB es).length + (sumB (bodyB es)).length : Nat) : Int) > 1048576 := of_decide_eq_false hc
      omega
    have ep : packR es = (bodyB es ++ sumB (bodyB es), 0) := by unfold packR; rw [if_neg h1024, if_neg (by simp [hf0]), if_neg hc]
    rw [ep]
    refine ⟨a44, c44, ?_, ?_⟩
    · rw [List.length_append]
    · rw [List.length_append]; exact k.only
end Go.Proofs.YtofaihacmoacjaaDoor.F
