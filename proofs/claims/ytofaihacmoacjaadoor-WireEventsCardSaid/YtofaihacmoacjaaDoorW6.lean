/- Package wire: names and values, as the program and the document ask them. Conditions: none. -/
import Derived.Test.YtofaihacmoacjaaDoorW5
import Derived.Test.YtofaihacmoacjaaDoorM6
namespace Go.Proofs.YtofaihacmoacjaaDoor.F
open Go Go.VC Go.Proofs
set_option linter.unusedSimpArgs false
set_option linter.unusedVariables false
set_option maxRecDepth 100000
attribute [local irreducible] CallsH RunsTo PureTo

variable {S F G : Nat → Prop} {h0 h h1 : Heap} {L R L' : List A} {a b : Option Addr} {l c l2 c2 : Nat} {bs cs : List UInt8}
abbrev bA (s : Bytes) : ByteArray := ByteArray.mk s.toArray
theorem bA_size (s : Bytes) : (bA s).size = s.length := rfl
theorem bA_at {s : Bytes} {i : Nat} {x : UInt8} (h : s[i]? = some x) : (bA s)[i]? = some x := by
  obtain ⟨hlt, he⟩ := List.getElem?_eq_some_iff.1 h
  rw [ByteArray.getElem?_lt' _ _ (show i < (bA s).size from hlt)]
  rw [← he]; rfl
theorem bA_of (s : ByteArray) : ∃ t : Bytes, s = bA t := ⟨s.data.toList, rfl⟩
theorem eqNil (s : Bytes) : strEq (bA s) (ByteArray.mk #[]) = decide (s = []) := eqStr s []
theorem dec_iff {p : Prop} [Decidable p] {b : Bool} (h : p ↔ b = true) : decide p = b := by
  cases b
  · exact decide_eq_false fun hp => by have := h.1 hp; cases this
  · exact decide_eq_true (h.2 rfl)
theorem letter_spec (x : UInt8) : CallsH Tryd.prog 83 #[.int .u8 (x.toNat : Int)] h (fun v h' => v = .bool (isLetter x) ∧ h' = h) := by
  refine vf83 _ h _ ?_
  unfold F83
  unfold isLetter
  generalize x.toNat = n
  have e : ((n : Int) == 95) = decide (n = 95) := by rw [Bool.eq_iff_iff]; simp; omega
  repeat' refine cond_split (fun hc => ?_) (fun hc => ?_)
  all_goals
    refine ⟨?_, rfl⟩
    congr 1
    simp only [ge_iff_le, decide_eq_true_eq, decide_eq_false_iff_not] at *
    rw [Bool.eq_iff_iff]
    simp
    omega
theorem part_spec (x : UInt8) : CallsH Tryd.prog 84 #[.int .u8 (x.toNat : Int)] h (fun v h' => v = .bool (isPart x) ∧ h' = h) := by
  refine vf84 _ h _ ?_
  unfold F84
  refine CallsH.mono (letter_spec x) ?_
  rintro _ _ ⟨rfl, rfl⟩
  refine ⟨_, rfl, ?_⟩
  unfold isPart isDigit
  cases isLetter x
  · refine cond_false rfl (cond_split (fun hc => ⟨?_, rfl⟩) (fun hc => ⟨?_, rfl⟩))
    all_goals
      congr 1
      simp only [ge_iff_le, decide_eq_true_eq, decide_eq_false_iff_not] at *
      rw [Bool.eq_iff_iff]
      simp
      omega
  · exact cond_true rfl ⟨rfl, rfl⟩
theorem digit_spec (x : UInt8) : CallsH Tryd.prog 76 #[.int .u8 (x.toNat : Int)] h (fun v h' => v = .bool (isDigit x) ∧ h' = h) := by
  refine vf76 _ h _ ?_
  unfold F76 isDigit
  refine cond_split (fun hc => ⟨?_, rfl⟩) (fun hc => ⟨?_, rfl⟩)
  all_goals
    congr 1
    simp only [ge_iff_le, decide_eq_true_eq, decide_eq_false_iff_not] at *
    rw [Bool.eq_iff_iff]
    simp
    omega
theorem inWord_spec (x : UInt8) : CallsH Tryd.prog 78 #[.int .u8 (x.toNat : Int)] h (fun v h' => v = .bool (isPart x) ∧ h' = h) := by
  refine vf78 _ h _ ?_
  unfold F78
  have key : (97 ≤ x.toNat ∧ x.toNat ≤ 122) ∨ (65 ≤ x.toNat ∧ x.toNat ≤ 90) ∨ x.toNat = 95 → isPart x = true := fun h => by
    unfold isPart isLetter
    simp only [Bool.or_eq_true, Bool.and_eq_true, decide_eq_true_eq]
    omega
  have key2 : ¬ ((97 ≤ x.toNat ∧ x.toNat ≤ 122) ∨ (65 ≤ x.toNat ∧ x.toNat ≤ 90) ∨ x.toNat = 95) → isPart x = isDigit x := fun h => by
    have : isLetter x = false := by
      unfold isLetter
      rw [Bool.eq_false_iff]
      simp only [ne_eq, Bool.or_eq_true, Bool.and_eq_true, decide_eq_true_eq]
      omega
    unfold isPart
    rw [this]; rfl
  repeat' refine cond_split (fun hc => ?_) (fun hc => ?_)
  all_goals
    simp only [ge_iff_le, decide_eq_true_eq, decide_eq_false_iff_not, beq_iff_eq, beq_eq_false_iff_ne] at *
    first
      | exact ⟨by rw [key (by omega)], trivial⟩
      | exact ⟨by rw [key (by omega)], rfl⟩
      | (refine CallsH.mono (digit_spec x) ?_
         rintro _ _ ⟨rfl, rfl⟩
         exact ⟨_, rfl, by rw [key2 (by omega)], rfl⟩)
/-! ### Words -/
def strV (s : Bytes) : Value := .string (bA s)
/-- The words, in memory. -/
abbrev Wd (F : Nat → Prop) (h : Heap) : Prop := Ro F h (some ⟨0, 0, none⟩) (words.map strV)
theorem Wd.rd (k : Wd F h) {i : Nat} {w : Bytes} (hw : words[i]? = some w) : cellH h ⟨0, i, none⟩ = some (.string (bA w)) := by
  obtain ⟨ad, e, q, _⟩ := k i (strV w) (by rw [List.getElem?_map, hw]; rfl)
  cases e
  rw [VC.add_plain, Nat.zero_add] at q
  exact q
theorem part9 {cs : Array Value} {off : Nat} {v : Value} (hv : cs[off]? = some v) (w : World) : (part 9 cs off).run Tryd.prog w = .ok v w := by
  have e : (isAgg 9).run Tryd.prog w = .ok false w := by kernel_rfl
  unfold part
  rw [Sem.run_bind, e, Result.andThen_ok]
  simp [hv]
theorem index118 {cs : Array Value} {j : Nat} {v : Value} {K : Value → Prop} (hj : j < 16) (hv : cs[j]? = some v) (q : K v) : PureTo Tryd.prog (Instr.index 118 (.agg cs) (.int .i64 (j : Int))) K := by
  refine .ok (fun w => ?_) q
  have hu : Tryd.prog.underlying 118 = some (.array 16 9) := by kernel_rfl
  have e : (sizeOf 9).run Tryd.prog w = .ok 1 w := by kernel_rfl
  simp only [Instr.index, asIntOf, Sem.run_bind, Sem.run_pure, Result.andThen_ok, und_run hu, Sem.run_ite]
  rw [if_pos ⟨by omega, by omega⟩, e, Result.andThen_ok, Int.toNat_natCast, Nat.mul_one, part9 hv]
theorem contains_take {s : Bytes} {j : Nat} {w : Bytes} (hw : words[j]? = some w) (hn : (words.take j).contains s = false) (hs : s ≠ w) : (words.take (j + 1)).contains s = false := by
  rw [take_next hw]
  simp at hn ⊢
  exact ⟨hn, hs⟩
theorem contains_at {s : Bytes} {j : Nat} (hw : words[j]? = some s) : words.contains s = true := by
  simp
  exact List.mem_of_getElem? hw
theorem contains_all {s : Bytes} {j : Nat} (hj : 16 ≤ j) (hn : (words.take j).contains s = false) : words.contains s = false := by
  rwa [List.take_of_length_le (show words.length ≤ j from hj)] at hn
theorem all_take {s : Bytes} {j : Nat} {x : UInt8} (hx : s[j]? = some x) (hn : (s.take j).all isPart = true) (hp : isPart x = true) : (s.take (j + 1)).all isPart = true := by
  rw [take_next hx, List.all_append, hn]
  simp [hp]
theorem all_not {s : Bytes} {j : Nat} {x : UInt8} (hx : s[j]? = some x) (hp : isPart x = false) : s.all isPart = false := by
  rw [Bool.eq_false_iff]
  intro h
  rw [List.all_eq_true] at h
  have := h x (List.mem_of_getElem? hx)
  rw [hp] at this; cases this
theorem nameOk_cons (x : UInt8) (r : Bytes) : nameOk (x :: r) = (decide ((x :: r).length ≤ 32) && isLetter x && (x :: r).all isPart && !words.contains (x :: r)) := rfl
theorem name_spec (hw : Wd F h) (s : Bytes) : CallsH Tryd.prog 72 #[.string (bA s)] h (fun v h' => v = .bool (nameOk s) ∧ h' = h) := by
  refine vf72 _ h _ ?_
  unfold F72
  rw [eqNil]
  refine cond_split (fun hc => ?_) (fun hc => ?_)
  · have hc := of_decide_eq_true hc
    subst hc
    exact ⟨rfl, rfl⟩
  cases s with
  | nil => cases hc
  | cons x r =>
  clear hc
  rw [bA_size]
  refine cond_split (fun hc => ?_) (fun hc => ?_)
  · have hl : ¬ (x :: r).length ≤ 32 := by
      have : ((x :: r).length : Int) > 32 := of_decide_eq_true hc
      omega
    refine ⟨?_, rfl⟩
    rw [nameOk_cons]
    rw [decide_eq_false hl]; rfl
  have hl : (x :: r).length ≤ 32 := by
    have : ¬ ((x :: r).length : Int) > 32 := of_decide_eq_false hc
    omega
  clear hc
  refine ⟨by omega, x, bA_at (s := x :: r) (i := 0) rfl, ?_⟩
  refine CallsH.mono (letter_spec x) ?_
  rintro _ hq ⟨rfl, rfl⟩
  refine ⟨_, rfl, cond_split (fun hc => ?_) (fun hc => ?_)⟩
  · have hx : isLetter x = false := by simpa using hc
    refine ⟨?_, rfl⟩
    rw [nameOk_cons]
    rw [hx]; simp
  have hx : isLetter x = true := by simpa using hc
  clear hc
  have hn : nameOk (x :: r) = ((x :: r).all isPart && !words.contains (x :: r)) := by
    rw [nameOk_cons]
    rw [hx, decide_eq_true hl, Bool.true_and, Bool.true_and]
  rw [hn]
  clear hn hx
  generalize x :: r = s at hl
  refine ⟨fun n hh _ i => ∃ j : Nat, i = j ∧ j ≤ s.length ∧ n = s.length - j ∧ hh = hq ∧ (s.take j).all isPart = true, ⟨_, 0, rfl, by omega, rfl, rfl, rfl⟩, ?_⟩
  rintro n hh _ _ i ⟨j, rfl, hj, rfl, rfl, hp⟩
  refine cond_split (fun hc => ?_) (fun hc => ?_)
  · have hjl : j < s.length := Int.ofNat_lt.1 (of_decide_eq_true hc)
    have hx : s[j]? = some s[j] := List.getElem?_eq_getElem hjl
    generalize s[j] = x at hx
    refine ⟨by omega, x, by rw [Int.toNat_natCast]; exact bA_at hx, ?_⟩
    refine CallsH.mono (part_spec x) ?_
    rintro _ _ ⟨rfl, rfl⟩
    refine ⟨_, rfl, cond_split (fun hc => ?_) (fun hc => ?_)⟩
    · have hx0 : isPart x = false := by simpa using hc
      refine ⟨?_, rfl⟩
      rw [all_not hx hx0]; rfl
    · have hx0 : isPart x = true := by simpa using hc
      exact ⟨_, by omega, j + 1, wrap_nat hjl (by omega), hjl, rfl, rfl, all_take hx hp hx0⟩
  have hjl : j = s.length := by
    have : ¬ (j : Int) < s.length := of_decide_eq_false hc
    omega
  subst hjl
  rw [List.take_of_length_le (Nat.le_refl _)] at hp
  rw [hp, Bool.true_and]
  clear hc hj
  refine ⟨_, hw.rd (i := 0) rfl, _, hw.rd (i := 1) rfl, _, hw.rd (i := 2) rfl, _, hw.rd (i := 3) rfl, _, hw.rd (i := 4) rfl, _, hw.rd (i := 5) rfl, _, hw.rd (i := 6) rfl, _, hw.rd (i := 7) rfl, _, hw.rd (i := 8) rfl, _, hw.rd (i := 9) rfl, _, hw.rd (i := 10) rfl, _, hw.rd (i := 11) rfl, _, hw.rd (i := 12) rfl, _, hw.rd (i := 13) rfl, _, hw.rd (i := 14) rfl, _, hw.rd (i := 15) rfl, ?_⟩
  refine ⟨fun n h' _ i => ∃ j : Nat, i = j ∧ j ≤ 16 ∧ n = 16 - j ∧ h' = hh ∧ (words.take j).contains s = false, ⟨_, 0, rfl, by omega, rfl, rfl, rfl⟩, ?_⟩
  rintro n h' _ _ i ⟨j, rfl, hj, rfl, rfl, hp⟩
  refine cond_split (fun hc => ?_) (fun hc => ?_)
  · have hjl : j < 16 := by
      have : (j : Int) < 16 := of_decide_eq_true hc
      omega
    obtain ⟨w, hwj⟩ : ∃ w, words[j]? = some w := ⟨_, List.getElem?_eq_getElem (show j < words.length from hjl)⟩
    refine index118 (v := strV w) hjl (by
      have : ((words.map strV).toArray)[j]? = some (strV w) := by simp [hwj]
      exact this) ⟨_, rfl, ?_⟩
    rw [eqStr]
    refine cond_split (fun hc => ?_) (fun hc => ?_)
    · have hc := of_decide_eq_true hc
      subst hc
      exact ⟨by rw [contains_at hwj]; rfl, rfl⟩
    · exact ⟨_, by omega, j + 1, wrap_nat hjl (by omega), hjl, rfl, rfl, contains_take hwj hp (of_decide_eq_false hc)⟩
  · have hjl : 16 ≤ j := by
      have : ¬ (j : Int) < 16 := of_decide_eq_false hc
      omega
    exact ⟨by rw [contains_all hjl hp]; rfl, rfl⟩
/-- The document's list of words. -/
theorem word_spec (s : Bytes) : CallsH Tryd.prog 77 #[.string (bA s)] h (fun v h' => v = .bool (words.contains s) ∧ Ext h h') := by
  refine vf77 _ h _ ?_
  unfold F77
  refine (St.fresh h).vnew fun b1 h2 k => ?_
  have hsl : Sl h2 (some ⟨b1, 0, none⟩) (words.map strV) := k.slB (b := b1)
  refine ⟨fun n h' _ i => ∃ j : Nat, i = j ∧ j ≤ 16 ∧ n = 16 - j ∧ h' = h2 ∧ (words.take j).contains s = false, ⟨_, 0, rfl, by omega, rfl, rfl, rfl⟩, ?_⟩
  rintro n h' _ _ i ⟨j, rfl, hj, rfl, rfl, hp⟩
  refine cond_split (fun hc => ?_) (fun hc => ?_)
  · have hjl : j < 16 := by
      have : (j : Int) < 16 := of_decide_eq_true hc
      omega
    refine hsl.one (l := 16) rfl (by omega) (by omega) fun ad w hwj hcw => ⟨_, hcw, ?_⟩
    rw [Int.toNat_natCast] at hwj
    rw [eqStr]
    refine cond_split (fun hc => ?_) (fun hc => ?_)
    · have hc := of_decide_eq_true hc
      subst hc
      exact ⟨by rw [contains_at hwj], k.ext⟩
    · exact ⟨_, by omega, j + 1, wrap_nat hjl (by omega), hjl, rfl, rfl, contains_take hwj hp (fun e => (of_decide_eq_false hc) e.symm)⟩
  · have hjl : 16 ≤ j := by
      have : ¬ (j : Int) < 16 := of_decide_eq_false hc
      omega
    exact ⟨by rw [contains_all hjl hp], k.ext⟩
theorem rname_spec (s : Bytes) : CallsH Tryd.prog 48 #[.string (bA s)] h (fun v h' => v = .bool (nameOk s) ∧ Ext h h') := by
  refine vf48 _ h _ ?_
  unfold F48
  rw [bA_size]
  refine cond_split (fun hc => ?_) (fun hc => ?_)
  · have : s = [] := List.eq_nil_of_length_eq_zero (by
      have : (s.length : Int) < 1 := of_decide_eq_true hc
      omega)
    subst this
    exact ⟨rfl, .refl _ _⟩
  cases s with
  | nil => cases hc
  | cons x r =>
  clear hc
  refine cond_split (fun hc => ?_) (fun hc => ?_)
  · have hl : ¬ (x :: r).length ≤ 32 := by
      have : ((x :: r).length : Int) > 32 := of_decide_eq_true hc
      omega
    refine ⟨?_, .refl _ _⟩
    rw [nameOk_cons]
    rw [decide_eq_false hl]; rfl
  have hl : (x :: r).length ≤ 32 := by
    have : ¬ ((x :: r).length : Int) > 32 := of_decide_eq_false hc
    omega
  clear hc
  refine ⟨by omega, x, bA_at (s := x :: r) (i := 0) rfl, ?_⟩
  refine CallsH.mono (digit_spec x) ?_
  rintro _ _ ⟨rfl, rfl⟩
  have ld : isDigit x = true → isLetter x = false := fun h => by
    unfold isDigit at h
    simp only [Bool.and_eq_true, decide_eq_true_eq] at h
    unfold isLetter
    rw [Bool.eq_false_iff]
    simp only [ne_eq, Bool.or_eq_true, Bool.and_eq_true, decide_eq_true_eq]
    omega
  have hn : nameOk (x :: r) = (!isDigit x && ((x :: r).all isPart && !words.contains (x :: r))) := by
    rw [nameOk_cons]
    rw [decide_eq_true hl, Bool.true_and, List.all_cons]
    unfold isPart
    cases hd : isDigit x
    · cases isLetter x <;> simp
    · rw [ld hd]; simp
  refine ⟨_, rfl, cond_split (fun hc => ?_) (fun hc => ?_)⟩
  · refine ⟨?_, .refl _ _⟩
    rw [hn, hc]; rfl
  rw [hn, hc]
  clear hn ld hc
  generalize x :: r = s at hl
  rw [Bool.not_false, Bool.true_and]
  refine CallsH.mono (word_spec s) ?_
  rintro _ h2 ⟨rfl, m⟩
  refine ⟨_, rfl, cond_split (fun hc => ?_) (fun hc => ?_)⟩
  · refine ⟨?_, m⟩
    rw [hc]; simp
  rw [hc]
  refine ⟨fun n hh _ i => ∃ j : Nat, i = j ∧ j ≤ s.length ∧ n = s.length - j ∧ hh = h2 ∧ (s.take j).all isPart = true, ⟨_, 0, rfl, by omega, rfl, rfl, rfl⟩, ?_⟩
  rintro n hh _ _ i ⟨j, rfl, hj, rfl, rfl, hp⟩
  refine cond_split (fun hc => ?_) (fun hc => ?_)
  · have hjl : j < s.length := Int.ofNat_lt.1 (of_decide_eq_true hc)
    have hx : s[j]? = some s[j] := List.getElem?_eq_getElem hjl
    generalize s[j] = x at hx
    refine ⟨by omega, x, by rw [Int.toNat_natCast]; exact bA_at hx, ?_⟩
    refine CallsH.mono (inWord_spec x) ?_
    rintro _ _ ⟨rfl, rfl⟩
    refine ⟨_, rfl, cond_split (fun hc => ?_) (fun hc => ?_)⟩
    · have hx0 : isPart x = false := by simpa using hc
      refine ⟨?_, m⟩
      rw [all_not hx hx0]; rfl
    · have hx0 : isPart x = true := by simpa using hc
      exact ⟨_, by omega, j + 1, wrap_nat hjl (by omega), hjl, rfl, rfl, all_take hx hp hx0⟩
  have hjl : j = s.length := by
    have : ¬ (j : Int) < s.length := of_decide_eq_false hc
    omega
  subst hjl
  rw [List.take_of_length_le (Nat.le_refl _)] at hp
  exact ⟨by rw [hp]; rfl, m⟩
/-! ### Values -/
def valV (v : Val) : List Value := [.int .i64 v.k, .int .i64 v.n, .string (bA v.s), .bool v.b]
abbrev aggV (v : Val) : Value := .agg #[.int .i64 v.k, .int .i64 v.n, .string (bA v.s), .bool v.b]
def eqV (a b : Val) : Bool := (a.k == b.k) && ((a.n == b.n) && (((bA a.s).toList == (bA b.s).toList) && ((a.b == b.b) && true)))
theorem eqV_dec (a b : Val) : eqV a b = decide (a = b) := by
  have := eqStr a.s b.s
  unfold strEq at this
  unfold eqV
  rw [this]
  cases a; cases b
  rw [Bool.eq_iff_iff]
  simp [Val.mk.injEq]
theorem und83 : Tryd.prog.underlying 83 = some (.struct (Tryd.prog.fieldsOf 83)) := by kernel_rfl
theorem und9 : Tryd.prog.underlying 9 = some .string := by kernel_rfl
theorem und3i : Tryd.prog.underlying 3 = some (.int .i64) := by kernel_rfl
theorem und4b : Tryd.prog.underlying 4 = some .bool := by kernel_rfl
theorem und2i : Tryd.prog.underlying 2 = some (.int .i64) := by kernel_rfl
theorem val_fields (x y : Val) (w : World) : (Op.eqFields 9999 (valV x).toArray (valV y).toArray (Tryd.prog.fieldsOf 83).toList).run Tryd.prog w = .ok (eqV x y) w := by
  have e : (Tryd.prog.fieldsOf 83).toList = [Field.mk "Kind" 3 0 false "" "" 0, Field.mk "Int" 2 1 false "" "" 8, Field.mk "Str" 9 2 false "" "" 16, Field.mk "Bool" 4 3 false "" "" 32] := by kernel_rfl
  rw [e]
  unfold eqV
  exact eqF_cons rfl (by kernel_rfl) (by kernel_rfl) (run_equalIn_int w _ _ .i64 _ _ _ und3i) (eqF_cons rfl (by kernel_rfl) (by kernel_rfl) (run_equalIn_int w _ _ .i64 _ _ _ und2i) (eqF_cons rfl (by kernel_rfl) (by kernel_rfl) (run_equalIn_string w _ _ _ _ und9) (eqF_cons rfl (by kernel_rfl) (by kernel_rfl) (run_equalIn_bool' w _ _ _ _ und4b) eqF_nil)))
theorem val_eql {x y : Val} {o1 o2 : Operand} {R : Value → Prop} (q : R (.bool (decide (x = y)))) : PureTo Tryd.prog (do eqGuard .eql 83 o1 o2 (aggV x) (aggV y); binOp .eql 83 (aggV x) (aggV y)) R :=
  eql_struct (fs := Tryd.prog.fieldsOf 83) und83 (by kernel_rfl) (by kernel_rfl) (val_fields x y) (by rw [eqV_dec]; exact q)
theorem val_neq {x y : Val} {o1 o2 : Operand} {R : Value → Prop} (q : R (.bool (!decide (x = y)))) : PureTo Tryd.prog (do eqGuard .neq 83 o1 o2 (aggV x) (aggV y); binOp .neq 83 (aggV x) (aggV y)) R :=
  neq_struct (fs := Tryd.prog.fieldsOf 83) und83 (by kernel_rfl) (by kernel_rfl) (val_fields x y) (by rw [eqV_dec]; exact q)
theorem number_spec (n : Int) : CallsH Tryd.prog 85 #[.int .i64 n] h (fun v h' => v = aggV ⟨1, n, [], false⟩ ∧ Ext h h') := by
  refine vf85 _ h _ ?_
  unfold F85
  exact (St.fresh h).vnew fun _ _ k => k.vall (by rfl) (by rfl) fun _ k => ⟨_, k.rd (by rfl), _, k.rd (by rfl), _, k.rd (by rfl), _, k.rd (by rfl), rfl, k.ext⟩
theorem text_spec (s : Bytes) : CallsH Tryd.prog 86 #[.string (bA s)] h (fun v h' => v = aggV ⟨2, 0, s, false⟩ ∧ Ext h h') := by
  refine vf86 _ h _ ?_
  unfold F86
  exact (St.fresh h).vnew fun _ _ k => k.vall (by rfl) (by rfl) fun _ k => ⟨_, k.rd (by rfl), _, k.rd (by rfl), _, k.rd (by rfl), _, k.rd (by rfl), rfl, k.ext⟩
theorem truth_spec (b : Bool) : CallsH Tryd.prog 87 #[.bool b] h (fun v h' => v = aggV ⟨3, 0, [], b⟩ ∧ Ext h h') := by
  refine vf87 _ h _ ?_
  unfold F87
  exact (St.fresh h).vnew fun _ _ k => k.vall (by rfl) (by rfl) fun _ k => ⟨_, k.rd (by rfl), _, k.rd (by rfl), _, k.rd (by rfl), _, k.rd (by rfl), rfl, k.ext⟩
theorem valid_spec (x : Val) : CallsH Tryd.prog 73 #[aggV x] h (fun v h' => v = .bool (validV x) ∧ Ext h h') := by
  refine vf73 _ _ _ _ h _ ?_
  unfold F73
  have k := St.fresh h
  obtain ⟨xk, xn, xs, xb⟩ := x
  refine k.vnew fun b1 h2 k => ⟨_, k.rd (by rfl), cond_split (fun hc => ?_) (fun hc => ?_)⟩
  · have hc : xk = 1 := by simpa using hc
    subst hc
    refine ⟨_, k.rd (by rfl), _, k.rd (by rfl), _, k.rd (by rfl), _, k.rd (by rfl), _, k.rd (by rfl), ?_⟩
    refine CallsH.mono (number_spec xn) ?_
    rintro _ h3 ⟨rfl, m⟩
    have k := k.next m
    refine ⟨_, _, _, _, rfl, ⟨k.rd (by rfl), k.rd (by rfl), k.rd (by rfl), k.rd (by rfl)⟩, val_eql (x := ⟨1, xn, xs, xb⟩) (y := ⟨1, xn, [], false⟩) ⟨_, rfl, ?_, k.ext⟩⟩
    congr 1
    unfold validV
    rw [Bool.eq_iff_iff]
    simp
  have h1 : xk ≠ 1 := by simpa using hc
  clear hc
  refine cond_split (fun hc => ?_) (fun hc => ?_)
  · have hc : xk = 2 := by simpa using hc
    subst hc
    refine ⟨_, k.rd (by rfl), _, k.rd (by rfl), _, k.rd (by rfl), _, k.rd (by rfl), _, k.rd (by rfl), ?_⟩
    refine CallsH.mono (text_spec xs) ?_
    rintro _ h3 ⟨rfl, m⟩
    have k := k.next m
    refine ⟨_, _, _, _, rfl, ⟨k.rd (by rfl), k.rd (by rfl), k.rd (by rfl), k.rd (by rfl)⟩, val_eql (x := ⟨2, xn, xs, xb⟩) (y := ⟨2, 0, xs, false⟩) ⟨_, rfl, cond_split (fun hc => ?_) (fun hc => ?_)⟩⟩
    · have hc := of_decide_eq_true hc
      simp at hc
      obtain ⟨rfl, rfl⟩ := hc
      refine ⟨_, k.rd (by rfl), ?_, k.ext⟩
      congr 1
      unfold validV
      rw [Bool.eq_iff_iff, bA_size]
      simp
      omega
    · have hc := of_decide_eq_false hc
      simp at hc
      refine ⟨?_, k.ext⟩
      congr 1
      unfold validV
      rw [Bool.eq_iff_iff]
      simp
      intro e1 e2
      rw [hc e1] at e2; cases e2
  have h2 : xk ≠ 2 := by simpa using hc
  clear hc
  refine cond_split (fun hc => ?_) (fun hc => ?_)
  · have hc : xk = 3 := by simpa using hc
    subst hc
    refine ⟨_, k.rd (by rfl), _, k.rd (by rfl), _, k.rd (by rfl), _, k.rd (by rfl), _, k.rd (by rfl), ?_⟩
    refine CallsH.mono (truth_spec xb) ?_
    rintro _ h3 ⟨rfl, m⟩
    have k := k.next m
    refine ⟨_, _, _, _, rfl, ⟨k.rd (by rfl), k.rd (by rfl), k.rd (by rfl), k.rd (by rfl)⟩, val_eql (x := ⟨3, xn, xs, xb⟩) (y := ⟨3, 0, [], xb⟩) ⟨_, rfl, ?_, k.ext⟩⟩
    congr 1
    unfold validV
    rw [Bool.eq_iff_iff]
    simp
  have h3 : xk ≠ 3 := by simpa using hc
  refine ⟨?_, k.ext⟩
  unfold validV
  rw [if_neg h1, if_neg h2, if_neg h3]
theorem rvalid_spec (x : Val) : CallsH Tryd.prog 49 #[aggV x] h (fun v h' => v = .bool (validV x) ∧ Ext h h') := by
  refine vf49 _ _ _ _ h _ ?_
  unfold F49
  have k := St.fresh h
  obtain ⟨xk, xn, xs, xb⟩ := x
  refine k.vnew fun b1 h2 k => ⟨_, k.rd (by rfl), cond_split (fun hc => ?_) (fun hc => ?_)⟩
  · have hc : xk = 1 := by simpa using hc
    subst hc
    refine ⟨_, k.rd (by rfl), ?_⟩
    rw [eqNil]
    refine cond_split (fun hc => ⟨_, k.rd (by rfl), ?_, k.ext⟩) (fun hc => ⟨?_, k.ext⟩)
    · congr 1
      unfold validV
      rw [if_pos rfl, hc]; rfl
    · congr 1
      unfold validV
      rw [if_pos rfl, hc]; rfl
  have h1 : xk ≠ 1 := by simpa using hc
  clear hc
  refine cond_split (fun hc => ?_) (fun hc => ?_)
  · have hc : xk = 2 := by simpa using hc
    subst hc
    refine ⟨_, k.rd (by rfl), cond_split (fun hn => ⟨_, k.rd (by rfl), cond_split (fun hb => ⟨_, k.rd (by rfl), ?_, k.ext⟩) (fun hb => ⟨?_, k.ext⟩)⟩) (fun hn => ⟨?_, k.ext⟩)⟩
    · have hn2 : xn = 0 := by simpa using hn
      have hb2 : xb = false := by simpa using hb
      clear hn hb
      subst hn2 hb2
      congr 1
      unfold validV
      rw [Bool.eq_iff_iff, bA_size]
      simp
      omega
    · have hb2 : xb = true := by simpa using hb
      clear hb
      subst hb2
      congr 1
      unfold validV
      simp
    · have hn : xn ≠ 0 := by simpa using hn
      congr 1
      unfold validV
      simp [hn]
  have h2 : xk ≠ 2 := by simpa using hc
  clear hc
  refine cond_split (fun hc => ?_) (fun hc => ?_)
  · have hc : xk = 3 := by simpa using hc
    subst hc
    refine ⟨_, k.rd (by rfl), cond_split (fun hn => ⟨_, k.rd (by rfl), ?_, k.ext⟩) (fun hn => ⟨?_, k.ext⟩)⟩
    · have hn2 : xn = 0 := by simpa using hn
      clear hn
      subst hn2
      rw [eqNil]
      congr 1
    · have hn : xn ≠ 0 := by simpa using hn
      congr 1
      unfold validV
      simp [hn]
  have h3 : xk ≠ 3 := by simpa using hc
  refine ⟨?_, k.ext⟩
  unfold validV
  rw [if_neg h1, if_neg h2, if_neg h3]
end Go.Proofs.YtofaihacmoacjaaDoor.F
