/- Wire's names, Encode, Decode, under this seat's numbers. Conditions: none. -/
import Derived.Test.YtgdgebmlcgohhaaDoorPX
import Derived.Test.YtgdgebmlcgohhaaDoorM6
/-! ## Package wire: names and values, as the program and the document ask them. -/
namespace Go.Proofs.YtgdgebmlcgohhaaDoor.F
open Go Go.VC Go.Proofs
set_option linter.unusedSimpArgs false
set_option linter.unusedVariables false
set_option maxRecDepth 100000
attribute [local irreducible] CallsH RunsTo PureTo

variable {S F G : Nat → Prop} {h0 h h1 : Heap} {L R L' : List A} {a b : Option Addr} {l c l2 c2 : Nat} {bs cs : List UInt8}
abbrev bA (s : Bytes) : ByteArray := ByteArray.mk s.toArray
theorem bA_size (s : Bytes) : (bA s).size = s.length := rfl
theorem bA_at {s : Bytes} {i : Nat} {x : UInt8} (h : s[i]? = some x) : (bA s)[i]? = some x := by
  obtain ⟨hlt, he⟩ := List.getElem?_eq_some_iff.1 h
  rw [ByteArray.getElem?_lt' _ _ (show i < (bA s).size from hlt)]
  rw [← he]; rfl
theorem bA_of (s : ByteArray) : ∃ t : Bytes, s = bA t := ⟨s.data.toList, rfl⟩
theorem eqNil (s : Bytes) : strEq (bA s) (ByteArray.mk #[]) = decide (s = []) := eqStr s []
theorem dec_iff {p : Prop} [Decidable p] {b : Bool} (h : p ↔ b = true) : decide p = b := by
  cases b
  · exact decide_eq_false fun hp => by have := h.1 hp; cases this
  · exact decide_eq_true (h.2 rfl)
theorem letter_spec (x : UInt8) : CallsH Tryd.prog 104 #[.int .u8 (x.toNat : Int)] h (fun v h' => v = .bool (isLetter x) ∧ h' = h) := by
  refine vf104 _ h _ ?_
  unfold F104
  unfold isLetter
  generalize x.toNat = n
  have e : ((n : Int) == 95) = decide (n = 95) := by rw [Bool.eq_iff_iff]; simp; omega
  repeat' refine cond_split (fun hc => ?_) (fun hc => ?_)
  all_goals
    refine ⟨?_, rfl⟩
    congr 1
    simp only [ge_iff_le, decide_eq_true_eq, decide_eq_false_iff_not] at *
    rw [Bool.eq_iff_iff]
    simp
    omega
theorem part_spec (x : UInt8) : CallsH Tryd.prog 105 #[.int .u8 (x.toNat : Int)] h (fun v h' => v = .bool (isPart x) ∧ h' = h) := by
  refine vf105 _ h _ ?_
  unfold F105
  refine CallsH.mono (letter_spec x) ?_
  rintro _ _ ⟨rfl, rfl⟩
  refine ⟨_, rfl, ?_⟩
  unfold isPart isDigit
  cases isLetter x
  · refine cond_false rfl (cond_split (fun hc => ⟨?_, rfl⟩) (fun hc => ⟨?_, rfl⟩))
    all_goals
      congr 1
      simp only [ge_iff_le, decide_eq_true_eq, decide_eq_false_iff_not] at *
      rw [Bool.eq_iff_iff]
      simp
      omega
  · exact cond_true rfl ⟨rfl, rfl⟩
def strV (s : Bytes) : Value := .string (bA s)
/-- The words, in memory. -/
abbrev Wd (F : Nat → Prop) (h : Heap) : Prop := Ro F h (some ⟨1, 0, none⟩) (words.map strV)
theorem Wd.rd (k : Wd F h) {i : Nat} {w : Bytes} (hw : words[i]? = some w) : cellH h ⟨1, i, none⟩ = some (.string (bA w)) := by
  obtain ⟨ad, e, q, _⟩ := k i (strV w) (by rw [List.getElem?_map, hw]; rfl)
  cases e
  rw [VC.add_plain, Nat.zero_add] at q
  exact q
theorem part9 {cs : Array Value} {off : Nat} {v : Value} (hv : cs[off]? = some v) (w : World) : (part 9 cs off).run Tryd.prog w = .ok v w := by
  have e : (isAgg 9).run Tryd.prog w = .ok false w := by kernel_rfl
  unfold part
  rw [Sem.run_bind, e, Result.andThen_ok]
  simp [hv]
theorem index118 {cs : Array Value} {j : Nat} {v : Value} {K : Value → Prop} (hj : j < 16) (hv : cs[j]? = some v) (q : K v) : PureTo Tryd.prog (Instr.index 161 (.agg cs) (.int .i64 (j : Int))) K := by
  refine .ok (fun w => ?_) q
  have hu : Tryd.prog.underlying 161 = some (.array 16 9) := by kernel_rfl
  have e : (sizeOf 9).run Tryd.prog w = .ok 1 w := by kernel_rfl
  simp only [Instr.index, asIntOf, Sem.run_bind, Sem.run_pure, Result.andThen_ok, und_run hu, Sem.run_ite]
  rw [if_pos ⟨by omega, by omega⟩, e, Result.andThen_ok, Int.toNat_natCast, Nat.mul_one, part9 hv]
theorem contains_take {s : Bytes} {j : Nat} {w : Bytes} (hw : words[j]? = some w) (hn : (words.take j).contains s = false) (hs : s ≠ w) : (words.take (j + 1)).contains s = false := by
  rw [take_next hw]
  simp at hn ⊢
  exact ⟨hn, hs⟩
theorem contains_at {s : Bytes} {j : Nat} (hw : words[j]? = some s) : words.contains s = true := by
  simp
  exact List.mem_of_getElem? hw
theorem contains_all {s : Bytes} {j : Nat} (hj : 16 ≤ j) (hn : (words.take j).contains s = false) : words.contains s = false := by
  rwa [List.take_of_length_le (show words.length ≤ j from hj)] at hn
theorem all_take {s : Bytes} {j : Nat} {x : UInt8} (hx : s[j]? = some x) (hn : (s.take j).all isPart = true) (hp : isPart x = true) : (s.take (j + 1)).all isPart = true := by
  rw [take_next hx, List.all_append, hn]
  simp [hp]
theorem all_not {s : Bytes} {j : Nat} {x : UInt8} (hx : s[j]? = some x) (hp : isPart x = false) : s.all isPart = false := by
  rw [Bool.eq_false_iff]
  intro h
  rw [List.all_eq_true] at h
  have := h x (List.mem_of_getElem? hx)
  rw [hp] at this; cases this
theorem nameOk_cons (x : UInt8) (r : Bytes) : nameOk (x :: r) = (decide ((x :: r).length ≤ 32) && isLetter x && (x :: r).all isPart && !words.contains (x :: r)) := rfl
theorem name_spec (hw : Wd F h) (s : Bytes) : CallsH Tryd.prog 97 #[.string (bA s)] h (fun v h' => v = .bool (nameOk s) ∧ h' = h) := by
  refine vf97 _ h _ ?_
  unfold F97
  rw [eqNil]
  refine cond_split (fun hc => ?_) (fun hc => ?_)
  · have hc := of_decide_eq_true hc
    subst hc
    exact ⟨rfl, rfl⟩
  cases s with
  | nil => cases hc
  | cons x r =>
  clear hc
  rw [bA_size]
  refine cond_split (fun hc => ?_) (fun hc => ?_)
  · have hl : ¬ (x :: r).length ≤ 32 := by
      have : ((x :: r).length : Int) > 32 := of_decide_eq_true hc
      omega
    refine ⟨?_, rfl⟩
    rw [nameOk_cons]
    rw [decide_eq_false hl]; rfl
  have hl : (x :: r).length ≤ 32 := by
    have : ¬ ((x :: r).length : Int) > 32 := of_decide_eq_false hc
    omega
  clear hc
  refine ⟨by omega, x, bA_at (s := x :: r) (i := 0) rfl, ?_⟩
  refine CallsH.mono (letter_spec x) ?_
  rintro _ hq ⟨rfl, rfl⟩
  refine ⟨_, rfl, cond_split (fun hc => ?_) (fun hc => ?_)⟩
  · have hx : isLetter x = false := by simpa using hc
    refine ⟨?_, rfl⟩
    rw [nameOk_cons]
    rw [hx]; simp
  have hx : isLetter x = true := by simpa using hc
  clear hc
  have hn : nameOk (x :: r) = ((x :: r).all isPart && !words.contains (x :: r)) := by
    rw [nameOk_cons]
    rw [hx, decide_eq_true hl, Bool.true_and, Bool.true_and]
  rw [hn]
  clear hn hx
  generalize x :: r = s at hl
  refine ⟨fun n hh _ i => ∃ j : Nat, i = j ∧ j ≤ s.length ∧ n = s.length - j ∧ hh = hq ∧ (s.take j).all isPart = true, ⟨_, 0, rfl, by omega, rfl, rfl, rfl⟩, ?_⟩
  rintro n hh _ _ i ⟨j, rfl, hj, rfl, rfl, hp⟩
  refine cond_split (fun hc => ?_) (fun hc => ?_)
  · have hjl : j < s.length := Int.ofNat_lt.1 (of_decide_eq_true hc)
    have hx : s[j]? = some s[j] := List.getElem?_eq_getElem hjl
    generalize s[j] = x at hx
    refine ⟨by omega, x, by rw [Int.toNat_natCast]; exact bA_at hx, ?_⟩
    refine CallsH.mono (part_spec x) ?_
    rintro _ _ ⟨rfl, rfl⟩
    refine ⟨_, rfl, cond_split (fun hc => ?_) (fun hc => ?_)⟩
    · have hx0 : isPart x = false := by simpa using hc
      refine ⟨?_, rfl⟩
      rw [all_not hx hx0]; rfl
    · have hx0 : isPart x = true := by simpa using hc
      exact ⟨_, by omega, j + 1, wrap_nat hjl (by omega), hjl, rfl, rfl, all_take hx hp hx0⟩
  have hjl : j = s.length := by
    have : ¬ (j : Int) < s.length := of_decide_eq_false hc
    omega
  subst hjl
  rw [List.take_of_length_le (Nat.le_refl _)] at hp
  rw [hp, Bool.true_and]
  clear hc hj
  refine ⟨_, hw.rd (i := 0) rfl, _, hw.rd (i := 1) rfl, _, hw.rd (i := 2) rfl, _, hw.rd (i := 3) rfl, _, hw.rd (i := 4) rfl, _, hw.rd (i := 5) rfl, _, hw.rd (i := 6) rfl, _, hw.rd (i := 7) rfl, _, hw.rd (i := 8) rfl, _, hw.rd (i := 9) rfl, _, hw.rd (i := 10) rfl, _, hw.rd (i := 11) rfl, _, hw.rd (i := 12) rfl, _, hw.rd (i := 13) rfl, _, hw.rd (i := 14) rfl, _, hw.rd (i := 15) rfl, ?_⟩
  refine ⟨fun n h' _ i => ∃ j : Nat, i = j ∧ j ≤ 16 ∧ n = 16 - j ∧ h' = hh ∧ (words.take j).contains s = false, ⟨_, 0, rfl, by omega, rfl, rfl, rfl⟩, ?_⟩
  rintro n h' _ _ i ⟨j, rfl, hj, rfl, rfl, hp⟩
  refine cond_split (fun hc => ?_) (fun hc => ?_)
  · have hjl : j < 16 := by
      have : (j : Int) < 16 := of_decide_eq_true hc
      omega
    obtain ⟨w, hwj⟩ : ∃ w, words[j]? = some w := ⟨_, List.getElem?_eq_getElem (show j < words.length from hjl)⟩
    refine index118 (v := strV w) hjl (by
      have : ((words.map strV).toArray)[j]? = some (strV w) := by simp [hwj]
      exact this) ⟨_, rfl, ?_⟩
    rw [eqStr]
    refine cond_split (fun hc => ?_) (fun hc => ?_)
    · have hc := of_decide_eq_true hc
      subst hc
      exact ⟨by rw [contains_at hwj]; rfl, rfl⟩
    · exact ⟨_, by omega, j + 1, wrap_nat hjl (by omega), hjl, rfl, rfl, contains_take hwj hp (of_decide_eq_false hc)⟩
  · have hjl : 16 ≤ j := by
      have : ¬ (j : Int) < 16 := of_decide_eq_false hc
      omega
    exact ⟨by rw [contains_all hjl hp]; rfl, rfl⟩
def valV (v : Val) : List Value := [.int .i64 v.k, .int .i64 v.n, .string (bA v.s), .bool v.b]
abbrev aggV (v : Val) : Value := .agg #[.int .i64 v.k, .int .i64 v.n, .string (bA v.s), .bool v.b]
def eqV (a b : Val) : Bool := (a.k == b.k) && ((a.n == b.n) && (((bA a.s).toList == (bA b.s).toList) && ((a.b == b.b) && true)))
theorem eqV_dec (a b : Val) : eqV a b = decide (a = b) := by
  have := eqStr a.s b.s
  unfold strEq at this
  unfold eqV
  rw [this]
  cases a; cases b
  rw [Bool.eq_iff_iff]
  simp [Val.mk.injEq]
theorem und83 : Tryd.prog.underlying 134 = some (.struct (Tryd.prog.fieldsOf 134)) := by kernel_rfl
theorem und9 : Tryd.prog.underlying 9 = some .string := by kernel_rfl
theorem und3i : Tryd.prog.underlying 3 = some (.int .i64) := by kernel_rfl
theorem und4b : Tryd.prog.underlying 4 = some .bool := by kernel_rfl
theorem und2i : Tryd.prog.underlying 2 = some (.int .i64) := by kernel_rfl
theorem val_fields (x y : Val) (w : World) : (Op.eqFields 9999 (valV x).toArray (valV y).toArray (Tryd.prog.fieldsOf 134).toList).run Tryd.prog w = .ok (eqV x y) w := by
  have e : (Tryd.prog.fieldsOf 134).toList = [Field.mk "Kind" 3 0 false "" "" 0, Field.mk "Int" 2 1 false "" "" 8, Field.mk "Str" 9 2 false "" "" 16, Field.mk "Bool" 4 3 false "" "" 32] := by kernel_rfl
  rw [e]
  unfold eqV
  exact eqF_cons rfl (by kernel_rfl) (by kernel_rfl) (run_equalIn_int w _ _ .i64 _ _ _ und3i) (eqF_cons rfl (by kernel_rfl) (by kernel_rfl) (run_equalIn_int w _ _ .i64 _ _ _ und2i) (eqF_cons rfl (by kernel_rfl) (by kernel_rfl) (run_equalIn_string w _ _ _ _ und9) (eqF_cons rfl (by kernel_rfl) (by kernel_rfl) (run_equalIn_bool' w _ _ _ _ und4b) eqF_nil)))
theorem val_eql {x y : Val} {o1 o2 : Operand} {R : Value → Prop} (q : R (.bool (decide (x = y)))) : PureTo Tryd.prog (do eqGuard .eql 134 o1 o2 (aggV x) (aggV y); binOp .eql 134 (aggV x) (aggV y)) R :=
  eql_struct (fs := Tryd.prog.fieldsOf 134) und83 (by kernel_rfl) (by kernel_rfl) (val_fields x y) (by rw [eqV_dec]; exact q)
theorem val_neq {x y : Val} {o1 o2 : Operand} {R : Value → Prop} (q : R (.bool (!decide (x = y)))) : PureTo Tryd.prog (do eqGuard .neq 134 o1 o2 (aggV x) (aggV y); binOp .neq 134 (aggV x) (aggV y)) R :=
  neq_struct (fs := Tryd.prog.fieldsOf 134) und83 (by kernel_rfl) (by kernel_rfl) (val_fields x y) (by rw [eqV_dec]; exact q)
theorem number_spec (n : Int) : CallsH Tryd.prog 94 #[.int .i64 n] h (fun v h' => v = aggV ⟨1, n, [], false⟩ ∧ Ext h h') := by
  refine vf94 _ h _ ?_
  unfold F94
  exact (St.fresh h).vnew fun _ _ k => k.vall (by rfl) (by rfl) fun _ k => ⟨_, k.rd (by rfl), _, k.rd (by rfl), _, k.rd (by rfl), _, k.rd (by rfl), rfl, k.ext⟩
theorem text_spec (s : Bytes) : CallsH Tryd.prog 95 #[.string (bA s)] h (fun v h' => v = aggV ⟨2, 0, s, false⟩ ∧ Ext h h') := by
  refine vf95 _ h _ ?_
  unfold F95
  exact (St.fresh h).vnew fun _ _ k => k.vall (by rfl) (by rfl) fun _ k => ⟨_, k.rd (by rfl), _, k.rd (by rfl), _, k.rd (by rfl), _, k.rd (by rfl), rfl, k.ext⟩
theorem truth_spec (b : Bool) : CallsH Tryd.prog 96 #[.bool b] h (fun v h' => v = aggV ⟨3, 0, [], b⟩ ∧ Ext h h') := by
  refine vf96 _ h _ ?_
  unfold F96
  exact (St.fresh h).vnew fun _ _ k => k.vall (by rfl) (by rfl) fun _ k => ⟨_, k.rd (by rfl), _, k.rd (by rfl), _, k.rd (by rfl), _, k.rd (by rfl), rfl, k.ext⟩
theorem valid_spec (x : Val) : CallsH Tryd.prog 90 #[aggV x] h (fun v h' => v = .bool (validV x) ∧ Ext h h') := by
  refine vf90 _ _ _ _ h _ ?_
  unfold F90
  have k := St.fresh h
  obtain ⟨xk, xn, xs, xb⟩ := x
  refine k.vnew fun b1 h2 k => ⟨_, k.rd (by rfl), cond_split (fun hc => ?_) (fun hc => ?_)⟩
  · have hc : xk = 1 := by simpa using hc
    subst hc
    refine ⟨_, k.rd (by rfl), _, k.rd (by rfl), _, k.rd (by rfl), _, k.rd (by rfl), _, k.rd (by rfl), ?_⟩
    refine CallsH.mono (number_spec xn) ?_
    rintro _ h3 ⟨rfl, m⟩
    have k := k.next m
    refine ⟨_, _, _, _, rfl, ⟨k.rd (by rfl), k.rd (by rfl), k.rd (by rfl), k.rd (by rfl)⟩, val_eql (x := ⟨1, xn, xs, xb⟩) (y := ⟨1, xn, [], false⟩) ⟨_, rfl, ?_, k.ext⟩⟩
    congr 1
    unfold validV
    rw [Bool.eq_iff_iff]
    simp
  have h1 : xk ≠ 1 := by simpa using hc
  clear hc
  refine cond_split (fun hc => ?_) (fun hc => ?_)
  · have hc : xk = 2 := by simpa using hc
    subst hc
    refine ⟨_, k.rd (by rfl), _, k.rd (by rfl), _, k.rd (by rfl), _, k.rd (by rfl), _, k.rd (by rfl), ?_⟩
    refine CallsH.mono (text_spec xs) ?_
    rintro _ h3 ⟨rfl, m⟩
    have k := k.next m
    refine ⟨_, _, _, _, rfl, ⟨k.rd (by rfl), k.rd (by rfl), k.rd (by rfl), k.rd (by rfl)⟩, val_eql (x := ⟨2, xn, xs, xb⟩) (y := ⟨2, 0, xs, false⟩) ⟨_, rfl, cond_split (fun hc => ?_) (fun hc => ?_)⟩⟩
    · have hc := of_decide_eq_true hc
      simp at hc
      obtain ⟨rfl, rfl⟩ := hc
      refine ⟨_, k.rd (by rfl), ?_, k.ext⟩
      congr 1
      unfold validV
      rw [Bool.eq_iff_iff, bA_size]
      simp
      omega
    · have hc := of_decide_eq_false hc
      simp at hc
      refine ⟨?_, k.ext⟩
      congr 1
      unfold validV
      rw [Bool.eq_iff_iff]
      simp
      intro e1 e2
      rw [hc e1] at e2; cases e2
  have h2 : xk ≠ 2 := by simpa using hc
  clear hc
  refine cond_split (fun hc => ?_) (fun hc => ?_)
  · have hc : xk = 3 := by simpa using hc
    subst hc
    refine ⟨_, k.rd (by rfl), _, k.rd (by rfl), _, k.rd (by rfl), _, k.rd (by rfl), _, k.rd (by rfl), ?_⟩
    refine CallsH.mono (truth_spec xb) ?_
    rintro _ h3 ⟨rfl, m⟩
    have k := k.next m
    refine ⟨_, _, _, _, rfl, ⟨k.rd (by rfl), k.rd (by rfl), k.rd (by rfl), k.rd (by rfl)⟩, val_eql (x := ⟨3, xn, xs, xb⟩) (y := ⟨3, 0, [], xb⟩) ⟨_, rfl, ?_, k.ext⟩⟩
    congr 1
    unfold validV
    rw [Bool.eq_iff_iff]
    simp
  have h3 : xk ≠ 3 := by simpa using hc
  refine ⟨?_, k.ext⟩
  unfold validV
  rw [if_neg h1, if_neg h2, if_neg h3]
end Go.Proofs.YtgdgebmlcgohhaaDoor.F
/-! ## Package wire: events are written, by the program and by the document. -/
namespace Go.Proofs.YtgdgebmlcgohhaaDoor.F
open Go Go.VC Go.Proofs
set_option linter.unusedSimpArgs false
set_option linter.unusedVariables false
set_option maxRecDepth 100000
attribute [local irreducible] CallsH RunsTo PureTo

variable {S F G : Nat → Prop} {h0 h h1 : Heap} {L R L' : List A} {a b : Option Addr} {l c l2 c2 : Nat} {bs cs : List UInt8} {e : Ev} {v : Val}
/-- A value in a list of values. -/
theorem valRow {vs : List Val} {i : Int} {K : Addr → Prop} (k : Sl h a (vs.flatMap valV)) (hl : vs.length = l) (h0 : 0 ≤ i) (hi : i < l)
    (q : ∀ ad x, vs[i.toNat]? = some x → cellH h ad = some (.int .i64 x.k) → cellH h ⟨ad.block, ad.off + 1, none⟩ = some (.int .i64 x.n) → cellH h ⟨ad.block, ad.off + 2, none⟩ = some (.string (bA x.s)) → cellH h ⟨ad.block, ad.off + 3, none⟩ = some (.bool x.b) → K ad) : VIdx a l i 4 K :=
  k.row (f := valV) (fun _ => rfl) (by omega) hl h0 hi fun ad x hx hc => q ad x hx (hc 0 _ rfl) (hc 1 _ rfl) (hc 2 _ rfl) (hc 3 _ rfl)
/-- An event's values, in memory that others hold. -/
structure EvRo (F : Nat → Prop) (h : Heap) (a : Option Addr) (l : Nat) (e : Ev) : Prop where
  ro : Ro F h a (e.vs.flatMap valV)
  len : e.vs.length = l
  rng : rngE e
theorem EvRo.in (k : EvRo S h0 a l e) (s : St S h0 h L) : EvRo none_ h a l e := ⟨k.ro.in s, k.len, k.rng⟩
theorem EvRo.at (k : EvRo S h0 a l e) (m : Mod S h0 h) (hf : ∀ b, F b → S b ∨ h0.size ≤ b) : EvRo F h a l e := ⟨k.ro.at m hf, k.len, k.rng⟩
theorem EvRo.ext (k : EvRo none_ h0 a l e) (m : Ext h0 h) : EvRo none_ h a l e := ⟨(k.ro.sl.ext m).ro, k.len, k.rng⟩
theorem EvRo.none (k : EvRo S h a l e) : EvRo none_ h a l e := ⟨k.ro.sl.ro, k.len, k.rng⟩
abbrev aggE (e : Ev) (a : Option Addr) (l c : Nat) : Value := .agg #[.string (bA e.t), .int .i64 e.tm, .slice a l c]
theorem app_text (s : Bytes) (k : St S h0 h (BV a l c bs :: R)) (hb : l + s.length ≤ 140737488355328) {K : KV}
    (q : ∀ a' c' h', St S h0 h' (BV a' (l + s.length) c' (bs ++ s) :: R) → K (.slice a' (l + s.length) c') h') : RunsTo Tryd.prog (Builtin.append_ #[35, 9] 35 #[.slice a l c, .string (bA s)]) h K := by
  refine k.app T30 und9 (by simp) (n := s.length) (news := bytesV s) (Src.str (bA s)) (oneC_bytes s) (by omega) fun a' c' h' k => q a' c' h' ?_
  rw [← bytesV_app] at k
  exact k
theorem app_bytes {s : Bytes} {x : Option Addr} {cx : Nat} (k : St S h0 h (BV a l c bs :: R)) (hs : Sl h x (bytesV s)) (hb : l + s.length ≤ 140737488355328) {K : KV}
    (q : ∀ a' c' h', St S h0 h' (BV a' (l + s.length) c' (bs ++ s) :: R) → K (.slice a' (l + s.length) c') h') : RunsTo Tryd.prog (Builtin.append_ #[35, 35] 35 #[.slice a l c, .slice x s.length cx]) h K := by
  refine k.app T30 und30 (by simp) (n := s.length) (news := bytesV s) (Src.slice hs (by rw [bytesV_len, Nat.mul_one])) (oneC_bytes s) (by omega) fun a' c' h' k => q a' c' h' ?_
  rw [← bytesV_app] at k
  exact k
theorem putS_len (s : Bytes) : (putS s).length = (putN s.length).length + s.length := by unfold putS; rw [List.length_append]
theorem putStr_spec {s : Bytes} (k : Holds [BV a l c bs] F h) (hb : l + s.length ≤ 140737488300000) : CallsH Tryd.prog 98 #[.slice a l c, .string (bA s)] h (fun v h' => ∃ a' c', v = .slice a' (l + (putS s).length) c' ∧ St F h h' [BV a' (l + (putS s).length) c' (bs ++ putS s)]) := by
  refine vf98 _ _ _ _ h _ ?_
  unfold F98
  rw [bA_size]
  have hp := putN_len s.length
  refine CallsH.mono (putInt_spec k (by omega) (by omega) (by omega)) ?_
  rintro _ h2 ⟨a', c', rfl, k⟩
  refine ⟨_, _, _, rfl, app_text s k (by omega) fun a2 c2 h3 k => ⟨_, _, _, rfl, a2, c2, ?_, ?_⟩⟩
  · rw [putS_len, Nat.add_assoc]
  · rw [putS_len, ← Nat.add_assoc]
    unfold putS
    rw [← List.append_assoc]
    exact k
theorem kind_byte {k : Int} (h : 1 ≤ k ∧ k ≤ 3) : (.int .u8 (IntKind.u8.wrap k) : Value) = byteV (UInt8.ofNat k.toNat) := by
  rw [byteV_of, wrap_u8]
  congr 1
  omega
theorem valid_kind (h : validV v = true) : 1 ≤ v.k ∧ v.k ≤ 3 := by
  unfold validV at h
  split at h
  · omega
  split at h
  · omega
  split at h
  · omega
  cases h
theorem putVal_spec (k : Holds [BV a l c bs] F h) (hv : okV v) (hb : l ≤ 140737488200000) : CallsH Tryd.prog 99 #[.slice a l c, aggV v] h (fun w h' => ∃ a' c', w = .slice a' (l + (encV v).length) c' ∧ St F h h' [BV a' (l + (encV v).length) c' (bs ++ encV v)]) := by
  refine vf99 _ _ _ _ _ _ _ h _ ?_
  unfold F99
  have hk := valid_kind hv.1
  have hlen := encV_len hv.1
  have k := St.start k
  refine k.vnew fun b1 h2 k => ⟨_, k.rd (by rfl), ?_⟩
  rw [kind_byte hk]
  refine k.vnew fun b4 h5 k => ?_
  refine app_byte k.pull2.pull1 (by omega) fun a8 c8 h7 k => ⟨_, _, _, rfl, _, k.rd (by rfl), cond_split (fun hc => ?_) (fun hc => ?_)⟩
  · have hc : v.k = 1 := by simpa using hc
    have ee : encV v = UInt8.ofNat v.k.toNat :: putN v.n := by unfold encV; rw [if_pos hc]
    refine ⟨_, k.rd (by rfl), ?_⟩
    obtain ⟨F', G, k1, kG, d, hF, back⟩ := k.frameA
    refine CallsH.mono (putInt_spec k1 hv.2.1 hv.2.2 (by omega)) ?_
    rintro _ h2 ⟨a', c', rfl, k2⟩
    have k := (back k2).only
    refine ⟨_, _, _, rfl, a', c', ?_, ?_⟩
    · rw [ee, List.length_cons]
      congr 1; omega
    · rw [ee, List.length_cons, Nat.add_comm _ 1, ← Nat.add_assoc]
      rw [List.append_assoc] at k
      exact k
  have h1 : v.k ≠ 1 := by simpa using hc
  clear hc
  refine cond_split (fun hc => ?_) (fun hc => ?_)
  · have hc : v.k = 2 := by simpa using hc
    have ee : encV v = UInt8.ofNat v.k.toNat :: putS v.s := by unfold encV; rw [if_neg h1, if_pos hc]
    have hs : v.s.length ≤ 267 := by
      rw [ee, List.length_cons, putS_len] at hlen; omega
    refine ⟨_, k.rd (by rfl), ?_⟩
    obtain ⟨F', G, k1, kG, d, hF, back⟩ := k.frameA
    refine CallsH.mono (putStr_spec k1 (by omega)) ?_
    rintro _ h2 ⟨a', c', rfl, k2⟩
    have k := (back k2).only
    refine ⟨_, _, _, rfl, a', c', ?_, ?_⟩
    · rw [ee, List.length_cons]
      congr 1; omega
    · rw [ee, List.length_cons, Nat.add_comm _ 1, ← Nat.add_assoc]
      rw [List.append_assoc] at k
      exact k
  have h2 : v.k ≠ 2 := by simpa using hc
  have h3 : v.k = 3 := by omega
  have ee : encV v = [UInt8.ofNat v.k.toNat, if v.b then 1 else 0] := by unfold encV; rw [if_neg h1, if_neg h2]
  have hv3 : v = ⟨3, 0, [], v.b⟩ := by
    have hv1 := hv.1
    unfold validV at hv1
    rw [if_neg h1, if_neg h2, if_pos h3] at hv1
    simp at hv1
    cases v
    simp at hv1 h3 ⊢
    exact ⟨h3, hv1⟩
  refine ⟨_, k.rd (by rfl), _, k.rd (by rfl), _, k.rd (by rfl), _, k.rd (by rfl), val_eql (x := v) (y := ⟨3, 0, [], false⟩) ⟨_, rfl, ?_⟩⟩
  have hb3 : decide (v = ⟨3, 0, [], false⟩) = !v.b := by
    rw [hv3]
    cases v.b <;> rfl
  rw [hb3]
  rw [ee]
  refine cond_split (fun hc => ?_) (fun hc => ?_)
  · have hb0 : v.b = false := by simpa using hc
    rw [hb0]
    refine k.vnew fun b24 h25 k => app_byte (x := 0) k (by omega) fun a28 c28 h27 k => ⟨_, _, _, rfl, a28, c28, rfl, ?_⟩
    have k := k.only
    rw [List.append_assoc] at k
    exact k
  · have hb0 : v.b = true := by simpa using hc
    rw [hb0]
    refine k.vnew fun b24 h25 k => app_byte (x := 1) k (by omega) fun a28 c28 h27 k => ⟨_, _, _, rfl, a28, c28, rfl, ?_⟩
    have k := k.only
    rw [List.append_assoc] at k
    exact k
theorem all_valid_take {vs : List Val} {j : Nat} {x : Val} (hx : vs[j]? = some x) (hn : (vs.take j).all validV = true) (hp : validV x = true) : (vs.take (j + 1)).all validV = true := by
  rw [take_next hx, List.all_append, hn]
  simp [hp]
theorem all_valid_not {vs : List Val} {j : Nat} {x : Val} (hx : vs[j]? = some x) (hp : validV x = false) : vs.all validV = false := by
  rw [Bool.eq_false_iff]
  intro h
  rw [List.all_eq_true] at h
  have := h x (List.mem_of_getElem? hx)
  rw [hp] at this; cases this
theorem fault_spec (hw : Wd none_ h) (he : EvRo none_ h a l e) (hb : l ≤ 1099511627776) : CallsH Tryd.prog 91 #[aggE e a l c] h (fun v h' => v = .int .i64 (faultE e) ∧ Ext h h') := by
  refine vf91 _ _ _ _ _ h _ ?_
  unfold F91
  have k := St.fresh h
  refine k.vnew fun b1 h2 k => ⟨_, k.rd (by rfl), ?_⟩
  refine CallsH.mono (name_spec (hw.in k) e.t) ?_
  rintro _ _ ⟨rfl, rfl⟩
  refine ⟨_, rfl, cond_split (fun hc => ?_) (fun hc => ?_)⟩
  · have hc : nameOk e.t = false := by simpa using hc
    refine ⟨?_, k.ext⟩
    unfold faultE
    rw [if_pos hc]
  have h1 : nameOk e.t ≠ false := by simpa using hc
  clear hc
  have f2 : ¬ (nameOk e.t = false) → (e.tm < 0 ∨ maxTime < e.tm) → faultE e = 23 := fun x y => by unfold faultE; rw [if_neg x, if_pos y]
  refine ⟨_, k.rd (by rfl), cond_split (fun hc => ?_) (fun hc => ?_)⟩
  · exact ⟨by rw [f2 h1 (.inl (of_decide_eq_true hc))], k.ext⟩
  have h2 : ¬ e.tm < 0 := of_decide_eq_false hc
  refine ⟨_, k.rd (by rfl), cond_split (fun hc => ?_) (fun hc => ?_)⟩
  · exact ⟨by rw [f2 h1 (.inr (of_decide_eq_true hc))], k.ext⟩
  have h3 : ¬ maxTime < e.tm := of_decide_eq_false hc
  have hl := he.len
  refine ⟨_, _, _, k.rd (by rfl), cond_split (fun hc => ?_) (fun hc => ?_)⟩
  · have h4 : 16 < e.vs.length := by
      have : (l : Int) > 16 := of_decide_eq_true hc
      omega
    refine ⟨?_, k.ext⟩
    unfold faultE
    rw [if_neg h1, if_neg (by omega), if_pos h4]
  have h4 : ¬ 16 < e.vs.length := by
    have : ¬ (l : Int) > 16 := of_decide_eq_false hc
    omega
  clear hc
  have f5 : faultE e = if e.vs.all validV = false then 12 else 0 := by unfold faultE; rw [if_neg h1, if_neg (by omega), if_neg h4]
  rw [f5]
  refine ⟨_, _, _, k.rd (by rfl), ?_⟩
  refine ⟨fun n hh _ i => ∃ j : Nat, i = j ∧ j ≤ l ∧ n = l - j ∧ St none_ h hh [A.blk b1 #[.string (bA e.t), .int .i64 e.tm, .slice a l c] 126] ∧ (e.vs.take j).all validV = true, ⟨_, 0, rfl, by omega, rfl, k, rfl⟩, ?_⟩
  clear k
  rintro n hh _ _ i ⟨j, rfl, hj, rfl, k, hp⟩
  refine cond_split (fun hc => ?_) (fun hc => ?_)
  · have hjl : j < l := Int.ofNat_lt.1 (of_decide_eq_true hc)
    refine valRow (he.ro.in k).sl hl (by omega) (by omega) fun ad x hx c0 c1 c2 c3 => ⟨_, c0, _, c1, _, c2, _, c3, ?_⟩
    rw [Int.toNat_natCast] at hx
    refine k.vnew fun b23 h24 k => k.vall (by rfl) (by rfl) fun h25 k => ⟨_, k.rd (by rfl), _, k.rd (by rfl), _, k.rd (by rfl), _, k.rd (by rfl), ?_⟩
    refine CallsH.mono (valid_spec x) ?_
    rintro _ h3 ⟨rfl, m⟩
    have k := (k.next m).drop
    refine ⟨_, rfl, cond_split (fun hc => ?_) (fun hc => ?_)⟩
    · have hx0 : validV x = false := by simpa using hc
      rw [if_pos (all_valid_not hx hx0)]
      exact ⟨rfl, k.ext⟩
    · have hx0 : validV x = true := by simpa using hc
      exact ⟨_, by omega, j + 1, wrap_nat hjl (by omega), hjl, rfl, k, all_valid_take hx hp hx0⟩
  · have hjl : j = e.vs.length := by
      have : ¬ (j : Int) < l := of_decide_eq_false hc
      omega
    subst hjl
    rw [List.take_of_length_le (Nat.le_refl _)] at hp
    rw [if_neg (by simp [hp])]
    exact ⟨rfl, k.ext⟩
theorem flat_next {α β : Type} {xs : List α} {f : α → List β} {j : Nat} {x : α} (h : xs[j]? = some x) : (xs.take (j + 1)).flatMap f = (xs.take j).flatMap f ++ f x := by
  rw [take_next h, List.flatMap_append]; simp
theorem take_len_le {xs : List Val} (h : ∀ v ∈ xs, validV v = true) (j : Nat) (hj : xs.length ≤ 16) : ((xs.take j).flatMap encV).length ≤ 5000 := by
  have h1 := encVs_len (vs := xs.take j) fun v hv => h v (List.mem_of_mem_take hv)
  have h2 : (xs.take j).length ≤ 16 := by rw [List.length_take]; omega
  omega
theorem put_spec (k : Holds [BV a l c bs] F h) {x : Option Addr} {lx cx : Nat} (he : EvRo F h x lx e) (hok : faultE e = 0) (hb : l ≤ 140737488000000) :
    CallsH Tryd.prog 92 #[.slice a l c, aggE e x lx cx] h (fun v h' => ∃ a' c', v = .slice a' (l + (encE e).length) c' ∧ St F h h' [BV a' (l + (encE e).length) c' (bs ++ encE e)]) := by
  obtain ⟨f1, f2, f3, f4, f5⟩ := fault0.1 hok
  have hl := he.len
  have hT : maxTime = 4611686018427387904 := rfl
  have ht := nameOk_len f1
  refine vf92 _ _ _ _ _ _ _ _ h _ ?_
  unfold F92
  have k := St.start k
  refine k.vnew fun b1 h2 k => ⟨_, k.rd (by rfl), _, k.rd (by rfl), ?_⟩
  obtain ⟨F', G, k1, kG, d, hF, back⟩ := k.pull1.frameA
  have p1 := putN_len e.t.length
  have p2 := putN_len e.tm
  have p3 := putN_len lx
  have p4 := putS_len e.t
  refine CallsH.mono (putStr_spec k1 (by omega)) ?_
  rintro _ h3 ⟨a3, c3, rfl, k2⟩
  have k := back k2
  clear back k1 kG d hF
  refine ⟨_, _, _, rfl, k.rd (by rfl), ?_⟩
  obtain ⟨F', G, k1, kG, d, hF, back⟩ := k.frameA
  refine CallsH.mono (putInt_spec k1 (by omega) (by omega) (by omega)) ?_
  rintro _ h4 ⟨a4, c4, rfl, k2⟩
  have k := back k2
  clear back k1 kG d hF
  refine ⟨_, _, _, rfl, _, _, _, k.rd (by rfl), ?_⟩
  obtain ⟨F', G, k1, kG, d, hF, back⟩ := k.frameA
  refine CallsH.mono (putInt_spec k1 (by omega) (by omega) (by omega)) ?_
  rintro _ h5 ⟨a5, c5, rfl, k2⟩
  have k := back k2
  clear back k1 kG d hF
  refine ⟨_, _, _, rfl, _, _, _, k.rd (by rfl), ?_⟩
  have ee : encE e = putS e.t ++ (putN e.tm ++ (putN lx ++ e.vs.flatMap encV)) := by unfold encE; rw [hl]
  refine ⟨fun n hh b' lb cb i => ∃ j : Nat, i = j ∧ j ≤ lx ∧ n = lx - j ∧ lb = l + (putS e.t).length + (putN e.tm).length + (putN lx).length + ((e.vs.take j).flatMap encV).length ∧
      St F h hh [BV b' lb cb (bs ++ putS e.t ++ putN e.tm ++ putN lx ++ (e.vs.take j).flatMap encV), A.blk b1 #[.string (bA e.t), .int .i64 e.tm, .slice x lx cx] 126], ⟨_, 0, rfl, by omega, rfl, rfl, by simpa using k⟩, ?_⟩
  clear k
  rintro n hh _ b' lb cb i ⟨j, rfl, hj, rfl, rfl, k⟩
  refine cond_split (fun hc => ?_) (fun hc => ?_)
  · have hjl : j < lx := Int.ofNat_lt.1 (of_decide_eq_true hc)
    refine valRow (he.ro.in k).sl hl (by omega) (by omega) fun ad y hy c0 c1 c2 c3 => ⟨_, c0, _, c1, _, c2, _, c3, ?_⟩
    rw [Int.toNat_natCast] at hy
    have hym := List.mem_of_getElem? hy
    refine k.vnew fun b23 h24 k => k.vall (by rfl) (by rfl) fun h25 k => ⟨_, k.rd (by rfl), _, k.rd (by rfl), _, k.rd (by rfl), _, k.rd (by rfl), ?_⟩
    have hp := take_len_le f5 j f4
    obtain ⟨F', G, k1, kG, d, hF, back⟩ := k.drop.frameA
    refine CallsH.mono (putVal_spec k1 ⟨f5 y hym, he.rng y hym⟩ (by omega)) ?_
    rintro _ h5 ⟨a5, c5, rfl, k2⟩
    have k := back k2
    refine ⟨_, _, _, rfl, _, ?_, j + 1, wrap_nat hjl (by omega), hjl, rfl, ?_, ?_⟩
    · omega
    · rw [flat_next hy, List.length_append]; omega
    · rw [flat_next hy, ← List.append_assoc]; exact k
  · have hjl : j = lx := by
      have : ¬ (j : Int) < lx := of_decide_eq_false hc
      omega
    subst hjl
    rw [List.take_of_length_le (by omega)] at k ⊢
    have elen : l + (encE e).length = l + (putS e.t).length + (putN e.tm).length + (putN j).length + (e.vs.flatMap encV).length := by
      rw [ee]; simp only [List.length_append]; omega
    refine ⟨b', cb, by rw [elen], ?_⟩
    rw [elen]
    have k := k.only
    have eb : bs ++ encE e = bs ++ putS e.t ++ putN e.tm ++ putN j ++ e.vs.flatMap encV := by rw [ee]; simp only [List.append_assoc]
    rw [eb]; exact k
/-- What is written of an event. -/
def encF (e : Ev) : Bytes := if faultE e = 0 then encE e else []
theorem encode_spec (hw : Wd none_ h) (he : EvRo none_ h a l e) (hb : l ≤ 1099511627776) : CallsH Tryd.prog 86 #[aggE e a l c] h (fun v h' => ∃ a' c', v = .tuple #[.slice a' (encF e).length c', .int .i64 (faultE e)] ∧ St none_ h h' [BV a' (encF e).length c' (encF e)]) := by
  refine vf86 _ _ _ _ _ h _ ?_
  unfold F86
  have k := St.fresh h
  refine k.vnew fun b1 h2 k => ⟨_, k.rd (by rfl), _, k.rd (by rfl), _, _, _, k.rd (by rfl), ?_⟩
  refine CallsH.mono (fault_spec (hw.in k) (he.in k) hb) ?_
  rintro _ h3 ⟨rfl, m⟩
  have k := k.next m
  refine ⟨_, rfl, cond_split (fun hc => ?_) (fun hc => ?_)⟩
  · have hc : faultE e ≠ 0 := by simpa using hc
    unfold encF
    rw [if_neg hc]
    exact ⟨none, 0, rfl, (k.drop.vnil 5 (sz := 1) (by omega)).re (y := BV none 0 0 []) rfl⟩
  have hc : faultE e = 0 := by simpa using hc
  refine ⟨_, k.rd (by rfl), _, k.rd (by rfl), _, _, _, k.rd (by rfl), ?_⟩
  have k := (k.vnil 5 (sz := 1) (by omega)).re (y := BV none 0 0 []) rfl
  obtain ⟨F', G, k1, kG, d, hF, back⟩ := k.frameA
  refine CallsH.mono (put_spec k1 (he.at k.ext hF) hc (by omega)) ?_
  rintro _ h5 ⟨a5, c5, rfl, k2⟩
  have k := (back k2).only
  rw [Nat.zero_add, List.nil_append] at k
  unfold encF
  rw [if_pos hc]
  exact ⟨_, _, _, rfl, a5, c5, by rw [Nat.zero_add, hc], k⟩
end Go.Proofs.YtgdgebmlcgohhaaDoor.F
/-! ## Package wire: events are read by the program. -/
namespace Go.Proofs.YtgdgebmlcgohhaaDoor.F
open Go Go.VC Go.Proofs
set_option linter.unusedSimpArgs false
set_option linter.unusedVariables false
set_option maxRecDepth 100000
attribute [local irreducible] CallsH RunsTo PureTo

variable {α β γ : Type}
theorem ret_left (x : α) (g : α → Bytes → Rd β) : bindR (retR x) g = g x := by
  funext b
  unfold bindR retR
  simp only [List.drop_zero]
  cases g x b with
  | ok y m => simp
  | err e => rfl
theorem bind_assoc (f : Bytes → Rd α) (g : α → Bytes → Rd β) (k : β → Bytes → Rd γ) : bindR (bindR f g) k = bindR f fun x => bindR (g x) k := by
  funext b
  unfold bindR
  cases f b with
  | err e => rfl
  | ok x n =>
    simp only
    cases g x (b.drop n) with
    | err e => rfl
    | ok y m =>
      simp only [List.drop_drop]
      cases k y (b.drop (n + m)) with
      | err e => rfl
      | ok z i => simp [Nat.add_assoc]
theorem rep_snoc (f : Bytes → Rd α) : ∀ n, rep f (n + 1) = bindR (rep f n) fun xs => bindR f fun x => retR (xs ++ [x])
  | 0 => by
    show bindR f (fun x => bindR (retR []) fun xs => retR (x :: xs)) = bindR (retR []) _
    rw [ret_left]
    congr 1
  | n + 1 => by
    have ih := rep_snoc f n
    show bindR f (fun x => bindR (rep f (n + 1)) fun xs => retR (x :: xs)) = bindR (bindR f fun x => bindR (rep f n) fun xs => retR (x :: xs)) _
    rw [bind_assoc]
    congr 1
    funext x
    rw [ih, bind_assoc, bind_assoc]
    congr 1
    funext xs
    rw [bind_assoc, ret_left]
    congr 1
/-- What a step of a reader does: after a fault nothing, else what the plain reader says. -/
def StepR (f : Bytes → Rd α) (bs : Bytes) (p : Nat) (e : Int) (x : α) (p' : Nat) (e' : Int) : Prop :=
  (e ≠ 0 ∧ p' = p ∧ e' = e) ∨ (e = 0 ∧ ∃ n, f (bs.drop p) = .ok x n ∧ p' = p + n ∧ e' = 0) ∨ (e = 0 ∧ f (bs.drop p) = .err e' ∧ e' ≠ 0)
section
variable {f : Bytes → Rd α} {g : α → Bytes → Rd β} {bs : Bytes} {p p1 p2 : Nat} {e e1 e2 : Int} {x x' : α} {y : β}
theorem StepR.bind (h1 : StepR f bs p e x p1 e1) (h2 : StepR (g x) bs p1 e1 y p2 e2) : StepR (bindR f g) bs p e y p2 e2 := by
  rcases h1 with ⟨a1, a2, a3⟩ | ⟨a1, n, a2, a3, a4⟩ | ⟨a1, a2, a3⟩
  · subst a2 a3
    rcases h2 with ⟨b1, b2, b3⟩ | ⟨b1, _⟩ | ⟨b1, _⟩
    · exact .inl ⟨b1, b2, b3⟩
    · exact absurd b1 a1
    · exact absurd b1 a1
  · subst a3 a4
    rcases h2 with ⟨b1, b2, b3⟩ | ⟨b1, m, b2, b3, b4⟩ | ⟨b1, b2, b3⟩
    · exact absurd rfl b1
    · refine .inr (.inl ⟨a1, n + m, ?_, by omega, b4⟩)
      unfold bindR
      rw [a2]
      simp only [List.drop_drop]
      rw [b2]
    · refine .inr (.inr ⟨a1, ?_, b3⟩)
      unfold bindR
      rw [a2]
      simp only [List.drop_drop]
      rw [b2]
  · rcases h2 with ⟨b1, b2, b3⟩ | ⟨b1, _⟩ | ⟨b1, _⟩
    · subst b3
      refine .inr (.inr ⟨a1, ?_, a3⟩)
      unfold bindR
      rw [a2]
    · exact absurd b1 a3
    · exact absurd b1 a3
theorem StepR.ret (x : α) : StepR (retR x) bs p e x p e := by
  by_cases h : e = 0
  · exact .inr (.inl ⟨h, 0, rfl, rfl, h⟩)
  · exact .inl ⟨h, rfl, rfl⟩
theorem StepR.stay (h : e ≠ 0) : StepR f bs p e x p e := .inl ⟨h, rfl, rfl⟩
theorem StepR.junk (h : StepR f bs p e x p1 e1) (he : e1 ≠ 0) : StepR f bs p e x' p1 e1 := by
  rcases h with h | ⟨_, _, _, _, h⟩ | h
  · exact .inl h
  · exact absurd h he
  · exact .inr (.inr h)
theorem StepR.snoc {j : Nat} {xs : List α} (h1 : StepR (rep f j) bs p e xs p1 e1) (h2 : StepR f bs p1 e1 x p2 e2) : StepR (rep f (j + 1)) bs p e (xs ++ [x]) p2 e2 := by
  rw [rep_snoc]
  exact h1.bind (h2.bind (StepR.ret _))
theorem StepR.skip [Inhabited α] {n : Nat} : ∀ {j : Nat} {xs ys : List α}, j ≤ n → StepR (rep f j) bs p e xs p1 e1 → e1 ≠ 0 → StepR (rep f n) bs p e ys p1 e1 := by
  intro j xs ys hj h he
  induction n with
  | zero =>
    have : j = 0 := by omega
    subst this; exact h.junk he
  | succ n ih =>
    by_cases hjn : j = n + 1
    · subst hjn; exact h.junk he
    · exact ((ih (by omega)).snoc (x := default) (StepR.stay he)).junk he
theorem StepR.ok (h : StepR f bs p 0 x p1 e1) : (∃ n, f (bs.drop p) = .ok x n ∧ p1 = p + n ∧ e1 = 0) ∨ (f (bs.drop p) = .err e1 ∧ e1 ≠ 0) := by
  rcases h with ⟨h, _⟩ | ⟨_, h⟩ | ⟨_, h⟩
  · exact absurd rfl h
  · exact .inl h
  · exact .inr h
end
theorem numb_bad {lo hi : Int} {b : Bytes} {e : Int} : getN b = .err e → numb lo hi b = .err e := fun h => by unfold numb; rw [h]
theorem getZ_bad : ∀ (b : Bytes) (i acc : Nat) (e : Int), getZ i acc b = .err e → e = 30 ∨ e = 31
  | [], i, acc, e, h => by cases h; exact .inl rfl
  | c :: r, i, acc, e, h => by
    rw [getZ] at h
    split at h
    · cases h; exact .inr rfl
    split at h
    · exact getZ_bad r _ _ e h
    split at h
    · cases h; exact .inr rfl
    · cases h
theorem getN_bad {b : Bytes} {e : Int} (h : getN b = .err e) : e = 30 ∨ e = 31 := by
  unfold getN at h
  split at h
  · cases h
  · rename_i h2
    cases h
    exact getZ_bad _ _ _ _ h2
/-! ### The program's reader -/
variable {S F G : Nat → Prop} {h0 h h1 : Heap} {L R L' : List A} {a b : Option Addr} {l c l2 c2 p t at_ : Nat} {bs cs : List UInt8} {e : Int} {ev : Ev} {v : Val}
abbrev RdrA (t p : Nat) (a : Option Addr) (l c : Nat) (at_ : Nat) (e : Int) : A := A.blk p #[.slice a l c, .int .i64 (at_ : Int), .int .i64 e] t
/-- What every call of a reader asks. -/
structure RdOk (F : Nat → Prop) (h : Heap) (a : Option Addr) (l c : Nat) (bs : Bytes) (at_ : Nat) : Prop where
  ro : Ro F h a (bytesV bs)
  len : bs.length = l
  lc : l ≤ c
  big : l ≤ 1099511627776
  at_ : at_ ≤ l
theorem RdOk.mod {at2 : Nat} (k : RdOk F h a l c bs at_) (m : Mod F h h1) (h2 : at2 ≤ l) : RdOk F h1 a l c bs at2 := ⟨k.ro.mod m, k.len, k.lc, k.big, h2⟩
theorem RdOk.at {at2 : Nat} (k : RdOk S h0 a l c bs at_) (m : Mod S h0 h) (hf : ∀ b, F b → S b ∨ h0.size ≤ b) (h2 : at2 ≤ l) : RdOk F h a l c bs at2 := ⟨k.ro.at m hf, k.len, k.lc, k.big, h2⟩
theorem fail_spec (k : Holds [RdrA t p a l c at_ e] F h) (e2 : Int) : CallsH Tryd.prog 102 #[.pointer (some ⟨p, 0, none⟩), .int .i64 e2] h (fun v h' => v = .tuple #[] ∧ St F h h' [RdrA t p a l c at_ (if e = 0 then e2 else e)]) := by
  refine vf102 _ _ h _ ?_
  unfold F102
  have k := St.start k
  refine VSome.mk ⟨_, k.rd (by rfl), cond_split (fun hc => ?_) (fun hc => ?_)⟩
  · have hc : e = 0 := by simpa using hc
    rw [if_pos hc]
    exact VSome.mk (k.vst (Nat.le_of_ble_eq_true (by rfl)) fun _ k => ⟨rfl, k⟩)
  · have hc : e ≠ 0 := by simpa using hc
    rw [if_neg hc]
    exact ⟨rfl, k⟩
theorem drop_take_all {l at_ : Nat} (hl : bs.length = l) : (bs.take l).drop at_ = bs.drop at_ := by rw [List.take_of_length_le (by omega)]
theorem number_step {lo hi : Int} (k : Holds [RdrA t p a l c at_ e] F h) (r : RdOk F h a l c bs at_) : CallsH Tryd.prog 101 #[.pointer (some ⟨p, 0, none⟩), .int .i64 lo, .int .i64 hi] h
    (fun v h' => ∃ x at2 e2, v = .int .i64 x ∧ at2 ≤ l ∧ StepR (numb lo hi) bs at_ e x at2 e2 ∧ (e2 ≠ 0 → x = 0) ∧ St F h h' [RdrA t p a l c at2 e2]) := by
  refine vf101 _ _ _ h _ ?_
  unfold F101
  have k := St.start k
  refine VSome.mk ⟨_, k.rd (by rfl), cond_split (fun hc => ?_) (fun hc => ?_)⟩
  · have hc : e ≠ 0 := by simpa using hc
    exact ⟨0, at_, e, rfl, r.at_, .stay hc, fun _ => rfl, k⟩
  have hc : e = 0 := by simpa using hc
  subst hc
  refine VSome.mk ⟨_, _, _, k.rd (by rfl), VSome.mk ⟨_, k.rd (by rfl), ?_⟩⟩
  refine r.ro.bcut r.len (lo := at_) (hi := l) (mx := c) rfl rfl rfl r.at_ (by omega) r.lc (by omega) fun a' r2 hlen => ?_
  rw [drop_take_all r.len] at r2 hlen
  have hbig := r.big
  refine CallsH.mono (int_spec r2.sl hlen (by omega)) ?_
  rintro _ _ ⟨rfl, rfl⟩
  cases hg : getN (bs.drop at_) with
  | err e2 =>
    have he2 : e2 ≠ 0 := by have := getN_bad hg; omega
    refine ⟨_, _, _, rfl, cond_true (by simpa using he2) ?_⟩
    obtain ⟨F', G, k1, kG, d, hF, back⟩ := k.frameA
    refine CallsH.mono (fail_spec k1 e2) ?_
    rintro _ h2 ⟨rfl, k2⟩
    have k := back k2
    rw [if_pos rfl] at k
    exact ⟨rfl, 0, at_, e2, rfl, r.at_, .inr (.inr ⟨rfl, numb_bad hg, he2⟩), fun _ => rfl, k⟩
  | ok x n =>
    have hle := Form.num.le hg
    rw [hlen] at hle
    have hat := r.at_
    refine ⟨_, _, _, rfl, cond_false rfl ?_⟩
    refine cond_split (fun hc => ?_) (fun hc => ?_)
    · have hx : x < lo ∨ hi < x := .inl (of_decide_eq_true hc)
      obtain ⟨F', G, k1, kG, d, hF, back⟩ := k.frameA
      refine CallsH.mono (fail_spec k1 31) ?_
      rintro _ h2 ⟨rfl, k2⟩
      have k := back k2
      rw [if_pos rfl] at k
      refine ⟨rfl, 0, at_, 31, rfl, r.at_, .inr (.inr ⟨rfl, ?_, by omega⟩), fun _ => rfl, k⟩
      unfold numb
      rw [hg]
      exact if_pos hx
    have h1 : ¬ x < lo := of_decide_eq_false hc
    refine cond_split (fun hc => ?_) (fun hc => ?_)
    · have hx : x < lo ∨ hi < x := .inr (of_decide_eq_true hc)
      obtain ⟨F', G, k1, kG, d, hF, back⟩ := k.frameA
      refine CallsH.mono (fail_spec k1 31) ?_
      rintro _ h2 ⟨rfl, k2⟩
      have k := back k2
      rw [if_pos rfl] at k
      refine ⟨rfl, 0, at_, 31, rfl, r.at_, .inr (.inr ⟨rfl, ?_, by omega⟩), fun _ => rfl, k⟩
      unfold numb
      rw [hg]
      exact if_pos hx
    have h2 : ¬ hi < x := of_decide_eq_false hc
    refine VSome.mk ⟨_, k.rd (by rfl), VSome.mk (k.vst (Nat.le_of_ble_eq_true (by rfl)) fun _ k => ⟨x, at_ + n, 0, rfl, by omega, .inr (.inl ⟨rfl, n, ?_, rfl, rfl⟩), fun h => absurd rfl h, ?_⟩)⟩
    · unfold numb
      rw [hg]
      exact if_neg (by omega)
    · have e1 : IntKind.i64.wrap ((at_ : Int) + (n : Int)) = ((at_ + n : Nat) : Int) := by rw [wrap_id (by omega) (by omega)]; omega
      rw [e1] at k
      exact k
theorem bytes_step {n : Nat} (k : Holds [RdrA t p a l c at_ e] F h) (r : RdOk F h a l c bs at_) (hn : n ≤ 1099511627776) : CallsH Tryd.prog 100 #[.pointer (some ⟨p, 0, none⟩), .int .i64 (n : Int)] h
    (fun v h' => ∃ s at2 e2, v = .string (bA s) ∧ at2 ≤ l ∧ StepR (takeB n) bs at_ e s at2 e2 ∧ (e2 ≠ 0 → s = []) ∧ St F h h' [RdrA t p a l c at2 e2]) := by
  refine vf100 _ _ h _ ?_
  unfold F100
  have k := St.start k
  have hat := r.at_
  have hlen := r.len
  have hbig := r.big
  have ew : IntKind.i64.wrap ((l : Int) - (at_ : Int)) = ((l - at_ : Nat) : Int) := by rw [wrap_id (by omega) (by omega)]; omega
  have hdl : (bs.drop at_).length = l - at_ := by rw [List.length_drop, hlen]
  refine ⟨fun h' => (e ≠ 0 ∧ St F h h' [RdrA t p a l c at_ e]) ∨ (e = 0 ∧ l - at_ < n ∧ St F h h' [RdrA t p a l c at_ 30]) ∨ (e = 0 ∧ n ≤ l - at_ ∧ St F h h' [RdrA t p a l c at_ 0]), ?_, ?_⟩
  · refine VSome.mk ⟨_, k.rd (by rfl), cond_split (fun hc => ?_) (fun hc => ?_)⟩
    · have hc : e = 0 := by simpa using hc
      subst hc
      refine VSome.mk ⟨_, _, _, k.rd (by rfl), VSome.mk ⟨_, k.rd (by rfl), ?_⟩⟩
      rw [ew]
      refine cond_split (fun hc => ?_) (fun hc => ?_)
      · have hc : l - at_ < n := by
          have : (n : Int) > ((l - at_ : Nat) : Int) := of_decide_eq_true hc
          omega
        obtain ⟨F', G, k1, kG, d, hF, back⟩ := k.frameA
        refine CallsH.mono (fail_spec k1 30) ?_
        rintro _ h2 ⟨rfl, k2⟩
        have k := back k2
        rw [if_pos rfl] at k
        exact ⟨rfl, .inr (.inl ⟨rfl, hc, k⟩)⟩
      · have hc : n ≤ l - at_ := by
          have : ¬ (n : Int) > ((l - at_ : Nat) : Int) := of_decide_eq_false hc
          omega
        exact .inr (.inr ⟨rfl, hc, k⟩)
    · have hc : e ≠ 0 := by simpa using hc
      exact .inl ⟨hc, k⟩
  clear k
  rintro h' _ (⟨he, k⟩ | ⟨rfl, hn2, k⟩ | ⟨rfl, hn2, k⟩)
  · exact VSome.mk ⟨_, k.rd (by rfl), cond_true (by simpa using he) ⟨[], at_, e, rfl, hat, .stay he, fun _ => rfl, k⟩⟩
  · refine VSome.mk ⟨_, k.rd (by rfl), cond_true (by simp) ⟨[], at_, 30, rfl, hat, .inr (.inr ⟨rfl, ?_, by omega⟩), fun _ => rfl, k⟩⟩
    unfold takeB
    rw [if_pos (by omega)]
  · refine VSome.mk ⟨_, k.rd (by rfl), cond_false (by simp) (VSome.mk ⟨_, k.rd (by rfl), VSome.mk (k.vst (Nat.le_of_ble_eq_true (by rfl)) fun h4 k => ?_)⟩)⟩
    have e1 : IntKind.i64.wrap ((at_ : Int) + (n : Int)) = ((at_ + n : Nat) : Int) := by rw [wrap_id (by omega) (by omega)]; omega
    rw [e1] at k
    have k : St F h h4 [RdrA t p a l c (at_ + n) 0] := k
    refine VSome.mk ⟨_, _, _, k.rd (by rfl), VSome.mk ⟨_, k.rd (by rfl), VSome.mk ⟨_, k.rd (by rfl), ?_⟩⟩⟩
    have e2 : IntKind.i64.wrap (((at_ + n : Nat) : Int) - (n : Int)) = (at_ : Int) := by rw [wrap_id (by omega) (by omega)]; omega
    have hlc := r.lc
    refine (r.ro.mod k.ext).bcut hlen (lo := at_) (hi := at_ + n) (mx := c) e2 rfl rfl (by omega) (by omega) (by omega) (by omega) fun a' r2 hl2 => ?_
    have e3 : (bs.take (at_ + n)).drop at_ = (bs.drop at_).take n := by rw [List.drop_take]; congr 1; omega
    rw [e3] at r2 hl2
    refine bytes_text und30 (by kernel_rfl) und9 r2.sl hl2 ⟨_, rfl, (bs.drop at_).take n, at_ + n, 0, rfl, by omega, .inr (.inl ⟨rfl, n, ?_, rfl, rfl⟩), fun h => absurd rfl h, k⟩
    unfold takeB
    rw [if_neg (by omega)]
end Go.Proofs.YtgdgebmlcgohhaaDoor.F
/-! ## Package wire: events are read by the program: values, events. -/
namespace Go.Proofs.YtgdgebmlcgohhaaDoor.F
open Go Go.VC Go.Proofs
set_option linter.unusedSimpArgs false
set_option linter.unusedVariables false
set_option maxRecDepth 100000
attribute [local irreducible] CallsH RunsTo PureTo

variable {S F G : Nat → Prop} {h0 h h1 : Heap} {L R L' : List A} {a b : Option Addr} {l c l2 c2 p t at_ : Nat} {bs cs : List UInt8} {e : Int} {ev : Ev} {v : Val}
theorem und25 : Tryd.prog.underlying 98 = some (.slice 134) := by kernel_rfl
theorem T25 : SlTy Tryd.prog 98 134 4 40 (.agg (valV noVal).toArray) := ⟨und25, by kernel_rfl, rfl, by omega, by omega⟩
abbrev VV (a : Option Addr) (l c : Nat) (vs : List Val) : A := A.vec 134 4 a l c (vs.flatMap valV)
theorem oneC_val (x : Val) : ∀ w ∈ valV x, oneC w = true := by
  intro w hw
  simp only [valV, List.mem_cons, List.not_mem_nil, or_false] at hw
  rcases hw with rfl | rfl | rfl | rfl <;> rfl
/-- One value more. -/
theorem app_val {x : Val} {bb : Nat} {vs : List Val} (k : St S h0 h (A.blk bb (valV x).toArray 134 :: VV a l c vs :: R)) (hb : l + 1 ≤ 1099511627776) {K : KV}
    (q : ∀ a' c' h', St S h0 h' (VV a' (l + 1) c' (vs ++ [x]) :: R) → K (.slice a' (l + 1) c') h') : RunsTo Tryd.prog (Builtin.append_ #[98, 98] 98 #[.slice a l c, .slice (some ⟨bb, 0, none⟩) 1 1]) h K := by
  have hsl : Sl h (some ⟨bb, 0, none⟩) (valV x) := k.slB (b := bb)
  refine k.pull1.app T25 und25 (by simp) (Src.slice hsl rfl) (oneC_val x) (by omega) fun a' c' h' k => q a' c' h' ?_
  have e : vs.flatMap valV ++ valV x = (vs ++ [x]).flatMap valV := by rw [List.flatMap_append]; simp
  rw [e] at k
  exact k.pull1.drop
theorem takeB_one (b : Bytes) : takeB 1 b = match b with | [] => .err 30 | c :: _ => .ok [c] 1 := by
  unfold takeB
  cases b with
  | nil => rfl
  | cons c r => simp
theorem one_step {lo hi : Nat} (k : Holds [RdrA t p a l c at_ e] F h) (r : RdOk F h a l c bs at_) : CallsH Tryd.prog 106 #[.pointer (some ⟨p, 0, none⟩), .int .u8 (lo : Int), .int .u8 (hi : Int)] h
    (fun v h' => ∃ (x : UInt8) (at2 : Nat) (e2 : Int), v = .int .u8 (x.toNat : Int) ∧ at2 ≤ l ∧ StepR (oneR lo hi) bs at_ e x at2 e2 ∧ St F h h' [RdrA t p a l c at2 e2]) := by
  refine vf106 _ _ _ h _ ?_
  unfold F106
  refine CallsH.mono (bytes_step (n := 1) k r (by omega)) ?_
  rintro _ h2 ⟨s, at2, e2, rfl, hat, hst, hs, k⟩
  refine ⟨_, rfl, VSome.mk ⟨_, k.rd (by rfl), cond_split (fun hc => ?_) (fun hc => ?_)⟩⟩
  · have hc : e2 ≠ 0 := by simpa using hc
    refine ⟨0, at2, e2, rfl, hat, ?_, k⟩
    rcases hst with h | ⟨_, _, _, _, h⟩ | ⟨h1, h2, h3⟩
    · exact .inl h
    · exact absurd h hc
    · refine .inr (.inr ⟨h1, ?_, h3⟩)
      rw [takeB_one] at h2
      cases hd : bs.drop at_ with
      | nil => rw [hd] at h2; cases h2; rfl
      | cons c r => rw [hd] at h2; cases h2
  have hc : e2 = 0 := by simpa using hc
  subst hc
  obtain ⟨rfl, x, hd, rfl, rfl⟩ : e = 0 ∧ ∃ x, bs.drop at_ = x :: bs.drop (at_ + 1) ∧ s = [x] ∧ at2 = at_ + 1 := by
    rcases hst with ⟨h, _, h2⟩ | ⟨h0, n, h1, h2, _⟩ | ⟨_, _, h⟩
    · exact absurd h2.symm h
    · refine ⟨h0, ?_⟩
      rw [takeB_one] at h1
      cases hd : bs.drop at_ with
      | nil => rw [hd] at h1; cases h1
      | cons c r =>
        rw [hd] at h1; cases h1
        refine ⟨c, ?_, rfl, h2⟩
        have : bs.drop (at_ + 1) = (bs.drop at_).drop 1 := by rw [List.drop_drop]
        rw [this, hd]; rfl
    · exact absurd rfl h
  have h0 : (bA [x])[Int.toNat 0]? = some x := rfl
  refine ⟨fun h' => (x.toNat < lo ∨ hi < x.toNat) ∧ St F h h' [RdrA t p a l c (at_ + 1) 31] ∨ ¬ (x.toNat < lo ∨ hi < x.toNat) ∧ St F h h' [RdrA t p a l c (at_ + 1) 0], ⟨by omega, x, h0, ?_⟩, ?_⟩
  · refine cond_split (fun hc => ?_) (fun hc => ⟨by omega, x, h0, cond_split (fun hc2 => ?_) (fun hc2 => ?_)⟩)
    · have hx : x.toNat < lo := by
        have : (x.toNat : Int) < lo := of_decide_eq_true hc
        omega
      obtain ⟨F', G, k1, kG, d, hF, back⟩ := k.frameA
      refine CallsH.mono (fail_spec k1 31) ?_
      rintro _ h2 ⟨rfl, k2⟩
      exact ⟨rfl, .inl ⟨.inl hx, back k2⟩⟩
    · have hx : hi < x.toNat := by
        have : (x.toNat : Int) > hi := of_decide_eq_true hc2
        omega
      obtain ⟨F', G, k1, kG, d, hF, back⟩ := k.frameA
      refine CallsH.mono (fail_spec k1 31) ?_
      rintro _ h2 ⟨rfl, k2⟩
      exact ⟨rfl, .inl ⟨.inr hx, back k2⟩⟩
    · have h1 : ¬ (x.toNat : Int) < lo := of_decide_eq_false hc
      have h2 : ¬ (x.toNat : Int) > hi := of_decide_eq_false hc2
      exact .inr ⟨by omega, k⟩
  · rintro h' _ (⟨hx, k⟩ | ⟨hx, k⟩)
    · refine ⟨by omega, x, h0, x, _, 31, rfl, hat, .inr (.inr ⟨rfl, ?_, by omega⟩), k⟩
      rw [hd]
      exact if_pos hx
    · refine ⟨by omega, x, h0, x, _, 0, rfl, hat, .inr (.inl ⟨rfl, 1, ?_, rfl, rfl⟩), k⟩
      rw [hd]
      exact if_neg hx
theorem StepR.rng {lo hi x : Int} {at2 : Nat} {e2 : Int} (h : StepR (numb lo hi) bs at_ e x at2 e2) (hz : e2 ≠ 0 → x = 0) (h1 : 0 ≤ lo) (h2 : 0 ≤ hi) (h3 : hi < 9223372036854775808) : 0 ≤ x ∧ x ≤ hi := by
  by_cases he : e2 = 0
  · subst he
    rcases h with ⟨h, _, h4⟩ | ⟨_, n, h4, _⟩ | ⟨_, _, h⟩
    · exact absurd h4.symm h
    · obtain ⟨h5, _⟩ := (Form.numb (lo := lo) (by omega) h3).pg _ _ _ h4
      omega
    · exact absurd rfl h
  · rw [hz he]; omega
abbrev zeroV : Array Value := #[.int .i64 0, .int .i64 0, .string (ByteArray.mk #[]), .bool false]
theorem value_step (k : Holds [RdrA t p a l c at_ e] F h) (r : RdOk F h a l c bs at_) : CallsH Tryd.prog 103 #[.pointer (some ⟨p, 0, none⟩)] h
    (fun v h' => ∃ (x : Val) (at2 : Nat) (e2 : Int), v = aggV x ∧ at2 ≤ l ∧ StepR valR bs at_ e x at2 e2 ∧ St F h h' [RdrA t p a l c at2 e2]) := by
  refine vf103 _ h _ ?_
  unfold F103
  have k := St.start k
  refine k.vnew fun b1 h2 k => ?_
  obtain ⟨F', G, k1, kG, d, hF, back⟩ := k.pull1.frameA
  refine CallsH.mono (one_step (lo := 1) (hi := 3) k1 (r.at k.ext hF r.at_)) ?_
  rintro _ h3 ⟨x, at2, e2, rfl, hat2, s1, k2⟩
  have k := back k2
  clear back k1 kG d hF
  have ex : IntKind.i64.wrap (x.toNat : Int) = (x.toNat : Int) := by have := x.toNat_lt; rw [wrap_id (by omega) (by omega)]
  refine ⟨_, rfl, ?_⟩
  rw [ex]
  refine (k.vnew fun b6 h4 k => k.vall (by rfl) (by rfl) fun h5 k => VSome.mk ⟨_, k.rd (by rfl), cond_split (fun hc => ?_) (fun hc => ?_)⟩)
  · have hc : e2 ≠ 0 := by simpa using hc
    refine k.vall (by rfl) (by rfl) fun h6 k => ⟨_, k.rd (by rfl), _, k.rd (by rfl), _, k.rd (by rfl), _, k.rd (by rfl), noVal, at2, e2, rfl, hat2, ?_, k.pull1.only⟩
    exact (s1.bind (y := noVal) (StepR.stay hc))
  have hc : e2 = 0 := by simpa using hc
  subst hc
  have hx13 : 1 ≤ x.toNat ∧ x.toNat ≤ 3 := by
    rcases s1 with ⟨h, _, h4⟩ | ⟨_, n, h4, _⟩ | ⟨_, _, h⟩
    · exact absurd h4.symm h
    · exact ((Form.one 1 3).pg _ _ _ h4).1
    · exact absurd rfl h
  refine ⟨fun h' => ∃ (v : Val) (at2 : Nat) (e2 : Int), at2 ≤ l ∧ StepR valR bs at_ e v at2 e2 ∧ St F h h' [RdrA t p a l c at2 e2, A.blk b6 (valV v).toArray 134, A.blk b1 zeroV 134], ⟨_, k.rd (by rfl), ?_⟩, ?_⟩
  rotate_left
  · clear k
    rintro h' _ ⟨v, at3, e3, hat3, s2, k⟩
    refine ⟨_, k.rd (by rfl), _, k.rd (by rfl), _, k.rd (by rfl), _, k.rd (by rfl), k.vall (by rfl) (by rfl) fun h6 k => ⟨_, k.rd (by rfl), _, k.rd (by rfl), _, k.rd (by rfl), _, k.rd (by rfl), v, at3, e3, rfl, hat3, s2, k.only⟩⟩
  refine cond_split (fun hc => ?_) (fun hc => ?_)
  · have hx : x.toNat = 1 := by
      have : (x.toNat : Int) = 1 := by simpa using hc
      omega
    obtain ⟨F', G, k1, kG, d, hF, back⟩ := k.pull1.frameA
    refine CallsH.mono (number_step k1 (r.at k.ext hF hat2)) ?_
    rintro _ h6 ⟨n, at3, e3, rfl, hat3, s2, hz, k2⟩
    have k := back k2
    refine ⟨_, rfl, k.vst (Nat.le_of_ble_eq_true (by rfl)) fun h7 k => ⟨⟨1, n, [], false⟩, at3, e3, hat3, s1.bind ?_, ?_⟩⟩
    · rw [if_pos hx]
      exact s2.bind (.ret _)
    · rw [hx] at k; exact k
  have hx1 : x.toNat ≠ 1 := by
    have : (x.toNat : Int) ≠ 1 := by simpa using hc
    omega
  clear hc
  refine cond_split (fun hc => ?_) (fun hc => ?_)
  · have hx : x.toNat = 2 := by
      have : (x.toNat : Int) = 2 := by simpa using hc
      omega
    obtain ⟨F', G, k1, kG, d, hF, back⟩ := k.pull1.frameA
    refine CallsH.mono (number_step k1 (r.at k.ext hF hat2)) ?_
    rintro _ h6 ⟨n, at3, e3, rfl, hat3, s2, hz, k2⟩
    have k := back k2
    clear back k1 kG d hF
    have hn := s2.rng hz (by omega) (by omega) (by omega)
    obtain ⟨m, rfl⟩ : ∃ m : Nat, n = m := ⟨n.toNat, by omega⟩
    refine ⟨_, rfl, ?_⟩
    obtain ⟨F', G, k1, kG, d, hF, back⟩ := k.frameA
    refine CallsH.mono (bytes_step (n := m) k1 (r.at k.ext hF hat3) (by omega)) ?_
    rintro _ h7 ⟨s, at4, e4, rfl, hat4, s3, hs, k2⟩
    have k := back k2
    refine ⟨_, rfl, k.vst (Nat.le_of_ble_eq_true (by rfl)) fun h7 k => ⟨⟨2, 0, s, false⟩, at4, e4, hat4, s1.bind ?_, ?_⟩⟩
    · rw [if_neg hx1, if_pos hx]
      exact (s2.bind s3).bind (.ret _)
    · rw [hx] at k; exact k
  have hx2 : x.toNat ≠ 2 := by
    have : (x.toNat : Int) ≠ 2 := by simpa using hc
    omega
  have hx : x.toNat = 3 := by omega
  obtain ⟨F', G, k1, kG, d, hF, back⟩ := k.pull1.frameA
  refine CallsH.mono (one_step (lo := 0) (hi := 1) k1 (r.at k.ext hF hat2)) ?_
  rintro _ h6 ⟨y, at3, e3, rfl, hat3, s2, k2⟩
  have k := back k2
  have eb : ((y.toNat : Int) == 1) = decide (y.toNat = 1) := by rw [Bool.eq_iff_iff]; simp; omega
  refine ⟨_, rfl, ?_⟩
  rw [eb]
  refine (k.vst (Nat.le_of_ble_eq_true (by rfl)) fun h7 k => ⟨⟨3, 0, [], decide (y.toNat = 1)⟩, at3, e3, hat3, s1.bind ?_, ?_⟩)
  · rw [if_neg hx1, if_neg hx2]
    exact s2.bind (.ret _)
  · rw [hx] at k; exact k
theorem event_step (hw : Wd F h) (k : Holds [RdrA t p a l c at_ e] F h) (r : RdOk F h a l c bs at_) : CallsH Tryd.prog 93 #[.pointer (some ⟨p, 0, none⟩)] h
    (fun v h' => ∃ (x : Ev) (a' : Option Addr) (c' at2 : Nat) (e2 : Int), v = aggE x a' x.vs.length c' ∧ at2 ≤ l ∧ StepR evR bs at_ e x at2 e2 ∧ x.vs.length ≤ 16 ∧ St F h h' [RdrA t p a l c at2 e2, VV a' x.vs.length c' x.vs]) := by
  refine vf93 _ h _ ?_
  unfold F93
  have k := St.start k
  refine k.vnew fun b1 h2 k => k.vnew fun b3 h3 k => ?_
  obtain ⟨F', G, k1, kG, d, hF, back⟩ := k.pull2.frameA
  refine CallsH.mono (number_step k1 (r.at k.ext hF r.at_)) ?_
  rintro _ h4 ⟨n, at1, e1, rfl, hat1, s1, hz1, k2⟩
  have k := back k2
  clear back k1 kG d hF
  have hn := s1.rng hz1 (by omega) (by omega) (by omega)
  obtain ⟨m, rfl⟩ : ∃ m : Nat, n = m := ⟨n.toNat, by omega⟩
  refine ⟨_, rfl, ?_⟩
  obtain ⟨F', G, k1, kG, d, hF, back⟩ := k.frameA
  refine CallsH.mono (bytes_step (n := m) k1 (r.at k.ext hF hat1) (by omega)) ?_
  rintro _ h5 ⟨tx, at2, e2, rfl, hat2, s2, hs, k2⟩
  have k := back k2
  clear back k1 kG d hF
  have s2 : StepR (textR 1 32) bs at_ e tx at2 e2 := s1.bind s2
  clear s1 hz1 hn hs
  refine ⟨_, rfl, k.vst (Nat.le_of_ble_eq_true (by rfl)) fun h6 k => ?_⟩
  refine ⟨fun h' => ∃ (e3 : Int), StepR nameR bs at_ e tx at2 e3 ∧ St F h h' [RdrA t p a l c at2 e3, A.blk b3 #[.string (bA tx), .int .i64 0, .slice none 0 0] 126, A.blk b1 #[.string (ByteArray.mk #[]), .int .i64 0, .slice none 0 0] 126], ⟨_, k.rd (by rfl), ?_⟩, ?_⟩
  · refine CallsH.mono (name_spec (hw.mod k.ext) tx) ?_
    rintro _ _ ⟨rfl, rfl⟩
    refine ⟨_, rfl, cond_split (fun hc => ?_) (fun hc => ?_)⟩
    · have hc : nameOk tx = false := by simpa using hc
      obtain ⟨F', G, k1, kG, d, hF, back⟩ := k.frameA
      refine CallsH.mono (fail_spec k1 31) ?_
      rintro _ h7 ⟨rfl, k2⟩
      refine ⟨rfl, _, s2.bind ?_, back k2⟩
      rw [if_neg (by simp [hc])]
      by_cases he : e2 = 0
      · subst he
        rw [if_pos rfl]
        exact .inr (.inr ⟨rfl, rfl, by omega⟩)
      · rw [if_neg he]
        exact .stay he
    · have hc : nameOk tx = true := by simpa using hc
      refine ⟨_, s2.bind ?_, k⟩
      rw [if_pos hc]
      exact .ret _
  clear k s2
  rintro h7 _ ⟨e3, s3, k⟩
  obtain ⟨F', G, k1, kG, d, hF, back⟩ := k.frameA
  refine CallsH.mono (number_step k1 (r.at k.ext hF hat2)) ?_
  rintro _ h8 ⟨tm, at4, e4, rfl, hat4, s4, hz4, k2⟩
  have k := back k2
  clear back k1 kG d hF
  refine ⟨_, rfl, k.vst (Nat.le_of_ble_eq_true (by rfl)) fun h9 k => ?_⟩
  obtain ⟨F', G, k1, kG, d, hF, back⟩ := k.frameA
  refine CallsH.mono (number_step k1 (r.at k.ext hF hat4)) ?_
  rintro _ h10 ⟨n, at5, e5, rfl, hat5, s5, hz5, k2⟩
  have k := back k2
  clear back k1 kG d hF
  have hn := s5.rng hz5 (by omega) (by omega) (by omega)
  obtain ⟨N, rfl⟩ : ∃ N : Nat, n = N := ⟨n.toNat, by omega⟩
  have hN : N ≤ 16 := by omega
  refine ⟨_, rfl, ?_⟩
  refine ⟨fun n h' i => ∃ (vs : List Val) (a' : Option Addr) (c' at6 : Nat) (e6 : Int), i = (vs.length : Int) ∧ vs.length ≤ N ∧ n = N - vs.length ∧ at6 ≤ l ∧ StepR (rep valR vs.length) bs at5 e5 vs at6 e6 ∧
      St F h h' [RdrA t p a l c at6 e6, A.blk b3 #[.string (bA tx), .int .i64 tm, .slice a' vs.length c'] 126, VV a' vs.length c' vs, A.blk b1 #[.string (ByteArray.mk #[]), .int .i64 0, .slice none 0 0] 126],
    ⟨_, [], none, 0, at5, e5, rfl, by simp, rfl, hat5, .ret _, ?_⟩, ?_⟩
  · exact (k.vnil 134 (sz := 4) (by omega)).sel 4 [1, 2, 0, 3] rfl (by decide) (by rfl)
  clear k
  rintro n h11 _ _ ⟨vs, a', c', at6, e6, rfl, hvN, rfl, hat6, s6, k⟩
  refine cond_split (fun hc => ?_) (fun hc => ?_)
  · have hlt : vs.length < N := Int.ofNat_lt.1 (of_decide_eq_true hc)
    refine ⟨_, _, _, k.rd (by rfl), ?_⟩
    obtain ⟨F', G, k1, kG, d, hF, back⟩ := k.frameA
    refine CallsH.mono (value_step k1 (r.at k.ext hF hat6)) ?_
    rintro _ h12 ⟨x, at7, e7, rfl, hat7, s7, k2⟩
    have k := back k2
    clear back k1 kG d hF
    refine ⟨_, _, _, _, rfl, k.rd (by rfl), k.vnew fun b41 h13 k => ⟨k.rd (by rfl), ?_⟩⟩
    have k := k.sel 5 [0, 3, 1, 2, 4] rfl (by decide) (L' := [A.blk b41 (valV x).toArray 134, VV a' vs.length c' vs, _, _, _]) (by rfl)
    refine app_val k (by omega) fun a2 c2 h14 k => ⟨_, _, _, rfl, k.vst (Nat.le_of_ble_eq_true (by rfl)) fun h15 k => ?_⟩
    have el : (vs ++ [x]).length = vs.length + 1 := by simp
    refine ⟨N - (vs.length + 1), by omega, vs ++ [x], a2, c2, at7, e7, ?_, by omega, by rw [el], hat7, ?_, ?_⟩
    · rw [wrap_id (by omega) (by omega), el]; omega
    · rw [el]; exact s6.snoc s7
    · rw [el]
      exact k.sel 4 [1, 2, 0, 3] rfl (by decide) (by rfl)
  · have hlt : vs.length = N := by
      have : ¬ (vs.length : Int) < N := of_decide_eq_false hc
      omega
    refine ⟨_, k.rd (by rfl), _, k.rd (by rfl), _, _, _, k.rd (by rfl), k.vall (by rfl) (by rfl) fun h15 k => ⟨_, k.rd (by rfl), _, k.rd (by rfl), _, _, _, k.rd (by rfl), ⟨tx, tm, vs⟩, a', c', at6, e6, rfl, hat6, ?_, by show vs.length ≤ 16; omega, ?_⟩⟩
    · rw [hlt] at s6
      exact s3.bind (s4.bind (s5.bind (StepR.bind (f := rep valR N) s6 (.ret _))))
    · exact (k.pull1.drop).only2
/-- What is read of an event. -/
def decB (b : Bytes) : Ev × Nat × Int := match evR b with
  | .ok x n => (x, n, 0)
  | .err e => (noEv, 0, e)
theorem decode_spec (hw : Wd none_ h) (hs : Sl h a (bytesV bs)) (hl : bs.length = l) (hlc : l ≤ c) (hb : l ≤ 1099511627776) : CallsH Tryd.prog 88 #[.slice a l c] h
    (fun v h' => ∃ (a' : Option Addr) (c' : Nat), v = .tuple #[aggE (decB bs).1 a' (decB bs).1.vs.length c', .int .i64 ((decB bs).2.1 : Int), .int .i64 (decB bs).2.2] ∧ St none_ h h' [VV a' (decB bs).1.vs.length c' (decB bs).1.vs]) := by
  refine vf88 _ _ _ h _ ?_
  unfold F88
  have k := St.fresh h
  refine k.vnew fun b1 h2 k => k.vnew fun b3 h3 k => ?_
  obtain ⟨F', G, k1, kG, d, hF, back⟩ := k.frame2
  refine CallsH.mono (event_step (e := 0) (at_ := 0) (hw.at k.ext hF) k1 ⟨hs.ro.at k.ext hF, hl, hlc, hb, Nat.zero_le _⟩) ?_
  rintro _ h4 ⟨x, a', c', at2, e2, rfl, hat, hst, hvl, k2⟩
  have k := back k2
  refine ⟨_, _, _, _, _, rfl, k.vnew fun b10 h5 k => k.vall (by rfl) (by rfl) fun h6 k => ⟨_, k.rd (by rfl), cond_split (fun hc => ?_) (fun hc => ?_)⟩⟩
  · have hc : e2 ≠ 0 := by simpa using hc
    have hd : decB bs = (noEv, 0, e2) := by
      rcases hst.ok with ⟨n, q1, q2, q3⟩ | ⟨q1, q2⟩
      · exact absurd q3 hc
      · unfold decB
        rw [List.drop_zero] at q1
        rw [q1]
    rw [hd]
    refine ⟨_, k.rd (by rfl), k.vall (by rfl) (by rfl) fun h7 k => ⟨k.rd (by rfl), _, k.rd (by rfl), _, k.rd (by rfl), _, _, _, k.rd (by rfl), none, 0, rfl, ?_⟩⟩
    exact (k.vnil 134 (sz := 4) (by omega)).only
  · have hc : e2 = 0 := by simpa using hc
    subst hc
    have hd : decB bs = (x, at2, 0) := by
      rcases hst.ok with ⟨n, q1, q2, q3⟩ | ⟨q1, q2⟩
      · unfold decB
        rw [List.drop_zero] at q1
        rw [q1, q2, Nat.zero_add]
      · exact absurd rfl q2
    rw [hd]
    refine ⟨_, k.rd (by rfl), _, k.rd (by rfl), _, _, _, k.rd (by rfl), _, k.rd (by rfl), k.vall (by rfl) (by rfl) fun h7 k => ⟨k.rd (by rfl), _, k.rd (by rfl), _, k.rd (by rfl), _, _, _, k.rd (by rfl), a', c', rfl, ?_⟩⟩
    exact (k.sel 4 [2, 0, 1, 3] rfl (by decide) (L' := [_, _, _, _]) (by rfl)).only
end Go.Proofs.YtgdgebmlcgohhaaDoor.F
