/- Package proto: the program's writer: lists. Printed by qa.py. Conditions: none. -/
import Derived.Test.YtgdgebmlcgohhaaDoorQ9
namespace Go.Proofs.YtgdgebmlcgohhaaDoor.F
open Go Go.VC Go.Proofs
set_option linter.unusedSimpArgs false
set_option linter.unusedVariables false
set_option maxRecDepth 100000
attribute [local irreducible] CallsH RunsTo PureTo

variable {S F G : Nat → Prop} {h0 h h1 : Heap} {L R L' : List A} {a b a1 a2 : Option Addr} {l c l1 c1 l2 c2 p t : Nat} {bs cs bs1 bs2 : List UInt8} {err e1 : Int} {v : Val}
theorem texsW_step {xs : List (Bytes)} (k0 : Holds [WB p bs err] F h) (r : RoX texE F h a l xs) (hok : ∀ x ∈ xs, True) (hb : bs.length + (putL putS xs).length ≤ 140737488300000) :
    CallsH Tryd.prog 39 #[.pointer (some ⟨p, 0, none⟩), .slice a l c, .func (.func 40) #[.pointer (some ⟨p, 0, none⟩)] #[]] h (fun v h' => v = .tuple #[] ∧ St F h h' [WB p (bs ++ putL putS xs) (orE err (firstE (fun _ => 0) xs))]) := by
  refine vf39 _ _ _ _ _ h _ ?_
  unfold F39
  have k := St.start k0
  have hl := r.len
  have hp : (putL putS xs).length = (putN xs.length).length + (xs.flatMap putS).length := by unfold putL; rw [List.length_append]
  have hf := flat_ge (p := putS) (P := fun _ => True) (fun y _ => putS_pos y) (xs := xs) fun _ _ => trivial
  obtain ⟨F', G, kF, kG, d, hF, back⟩ := k.frameA
  refine CallsH.mono (numW_step (n := (l : Int)) kF ⟨by omega, by omega⟩ (by rw [← hl]; omega)) ?_
  rintro _ h2 ⟨rfl, k2⟩
  have k := back k2
  clear back kF kG d hF
  refine ⟨rfl, fun m h' i => ∃ j : Nat, i = j ∧ j ≤ l ∧ m = l - j ∧ St F h h' [WB p (bs ++ putN l ++ (xs.take j).flatMap putS) (orE err (firstE (fun _ => 0) (xs.take j)))], ⟨_, 0, rfl, by omega, rfl, ?_⟩, ?_⟩
  · rw [List.take_zero, List.flatMap_nil, List.append_nil]
    show St F h h2 [WB p (bs ++ putN l) (orE err 0)]
    rw [orE_zero]; exact k
  clear k
  rintro m h5 _ i ⟨j, rfl, hj, rfl, k⟩
  refine cond_split (fun hc => ?_) (fun hc => ?_)
  · have hjl : j < l := Int.ofNat_lt.1 (of_decide_eq_true hc)
    refine r.one k.ext (by omega) (by omega) fun ad s hs hc hrd => ?_
    rw [Int.toNat_natCast] at hs
    have hsm := List.mem_of_getElem? hs
    have hle := flat_take_le (f := putS) hs
    have hbl : (bs ++ putN l ++ (xs.take j).flatMap putS).length + (putS (texE.val s)).length ≤ 140737488300000 := by
      rw [List.length_append, List.length_append]
      rw [hl] at hp; omega
    refine ⟨_, hc 0 _ rfl, ?_⟩
    obtain ⟨F', G, kF, kG, d, hF, back⟩ := k.frameA
    refine CallsH.mono (texW_step kF hbl) ?_
    rintro _ h22 ⟨rfl, k2⟩
    have k := back k2
    refine ⟨rfl, l - (j + 1), by omega, j + 1, wrap_nat hjl (by omega), hjl, rfl, ?_⟩
    rw [flat_next hs, firstE_next hs, ← orE_assoc, ← List.append_assoc]
    exact (by rw [orE_zero]; exact k)
  · have hjl : j = l := by
      have : ¬ (j : Int) < l := of_decide_eq_false hc
      omega
    subst hjl
    rw [List.take_of_length_le (by omega)] at k
    refine ⟨rfl, ?_⟩
    unfold putL
    rw [hl, ← List.append_assoc]
    exact k
theorem valsW_step {xs : List (Val)} (k0 : Holds [WB p bs err] F h) (r : RoX valE F h a l xs) (hok : ∀ x ∈ xs, rngV x) (hb : bs.length + (putL encW xs).length ≤ 140737488300000) :
    CallsH Tryd.prog 80 #[.pointer (some ⟨p, 0, none⟩), .slice a l c, .func (.func 81) #[.pointer (some ⟨p, 0, none⟩)] #[]] h (fun v h' => v = .tuple #[] ∧ St F h h' [WB p (bs ++ putL encW xs) (orE err (firstE (faultV) xs))]) := by
  refine vf80 _ _ _ _ _ h _ ?_
  unfold F80
  have k := St.start k0
  have hl := r.len
  have hp : (putL encW xs).length = (putN xs.length).length + (xs.flatMap encW).length := by unfold putL; rw [List.length_append]
  have hf := flat_ge (p := encW) (P := fun _ => True) (fun y _ => by unfold encW; rw [List.length_cons]; omega) (xs := xs) fun _ _ => trivial
  obtain ⟨F', G, kF, kG, d, hF, back⟩ := k.frameA
  refine CallsH.mono (numW_step (n := (l : Int)) kF ⟨by omega, by omega⟩ (by rw [← hl]; omega)) ?_
  rintro _ h2 ⟨rfl, k2⟩
  have k := back k2
  clear back kF kG d hF
  refine ⟨rfl, fun m h' i => ∃ j : Nat, i = j ∧ j ≤ l ∧ m = l - j ∧ St F h h' [WB p (bs ++ putN l ++ (xs.take j).flatMap encW) (orE err (firstE (faultV) (xs.take j)))], ⟨_, 0, rfl, by omega, rfl, ?_⟩, ?_⟩
  · rw [List.take_zero, List.flatMap_nil, List.append_nil]
    show St F h h2 [WB p (bs ++ putN l) (orE err 0)]
    rw [orE_zero]; exact k
  clear k
  rintro m h5 _ i ⟨j, rfl, hj, rfl, k⟩
  refine cond_split (fun hc => ?_) (fun hc => ?_)
  · have hjl : j < l := Int.ofNat_lt.1 (of_decide_eq_true hc)
    refine r.one k.ext (by omega) (by omega) fun ad s hs hc hrd => ?_
    rw [Int.toNat_natCast] at hs
    have hsm := List.mem_of_getElem? hs
    have hle := flat_take_le (f := encW) hs
    have hbl : (bs ++ putN l ++ (xs.take j).flatMap encW).length + (encW (valE.val s)).length ≤ 140737488300000 := by
      rw [List.length_append, List.length_append]
      rw [hl] at hp; omega
    refine ⟨_, hc 0 _ rfl, _, hc 1 _ rfl, _, hc 2 _ rfl, _, hc 3 _ rfl, k.vnew fun b14 h15 k => k.vall (by rfl) (by rfl) fun h16 k => ⟨_, k.rd (by rfl), _, k.rd (by rfl), _, k.rd (by rfl), _, k.rd (by rfl), ?_⟩⟩
    obtain ⟨F', G, kF, kG, d, hF, back⟩ := k.pull1.frameA
    refine CallsH.mono (valW_step (v := s) kF (hok _ hsm) hbl) ?_
    rintro _ h22 ⟨rfl, k2⟩
    have k := back k2
    refine ⟨rfl, l - (j + 1), by omega, j + 1, wrap_nat hjl (by omega), hjl, rfl, ?_⟩
    rw [flat_next hs, firstE_next hs, ← orE_assoc, ← List.append_assoc]
    exact k.only
  · have hjl : j = l := by
      have : ¬ (j : Int) < l := of_decide_eq_false hc
      omega
    subst hjl
    rw [List.take_of_length_le (by omega)] at k
    refine ⟨rfl, ?_⟩
    unfold putL
    rw [hl, ← List.append_assoc]
    exact k
theorem evsW_step {xs : List (Ev)} (hw : Wd F h) (hlb : l ≤ 1099511627776) (k0 : Holds [WB p bs err] F h) (r : RoX evE F h a l xs) (hok : ∀ x ∈ xs, rngE x ∧ x.vs.length ≤ 1099511627776) (hb : bs.length + (putL encF xs).length ≤ 140737488300000) :
    CallsH Tryd.prog 72 #[.pointer (some ⟨p, 0, none⟩), .slice a l c, .func (.func 73) #[.pointer (some ⟨p, 0, none⟩)] #[]] h (fun v h' => v = .tuple #[] ∧ St F h h' [WB p (bs ++ putL encF xs) (orE err (firstE (faultE) xs))]) := by
  refine vf72 _ _ _ _ _ h _ ?_
  unfold F72
  have k := St.start k0
  have hl := r.len
  have hp : (putL encF xs).length = (putN xs.length).length + (xs.flatMap encF).length := by unfold putL; rw [List.length_append]
  obtain ⟨F', G, kF, kG, d, hF, back⟩ := k.frameA
  refine CallsH.mono (numW_step (n := (l : Int)) kF ⟨by omega, by omega⟩ (by rw [← hl]; omega)) ?_
  rintro _ h2 ⟨rfl, k2⟩
  have k := back k2
  clear back kF kG d hF
  refine ⟨rfl, fun m h' i => ∃ j : Nat, i = j ∧ j ≤ l ∧ m = l - j ∧ St F h h' [WB p (bs ++ putN l ++ (xs.take j).flatMap encF) (orE err (firstE (faultE) (xs.take j)))], ⟨_, 0, rfl, by omega, rfl, ?_⟩, ?_⟩
  · rw [List.take_zero, List.flatMap_nil, List.append_nil]
    show St F h h2 [WB p (bs ++ putN l) (orE err 0)]
    rw [orE_zero]; exact k
  clear k
  rintro m h5 _ i ⟨j, rfl, hj, rfl, k⟩
  refine cond_split (fun hc => ?_) (fun hc => ?_)
  · have hjl : j < l := Int.ofNat_lt.1 (of_decide_eq_true hc)
    refine r.one k.ext (by omega) (by omega) fun ad s hs hc hrd => ?_
    rw [Int.toNat_natCast] at hs
    have hsm := List.mem_of_getElem? hs
    have hle := flat_take_le (f := encF) hs
    have hbl : (bs ++ putN l ++ (xs.take j).flatMap encF).length + (encF (evE.val s)).length ≤ 140737488300000 := by
      rw [List.length_append, List.length_append]
      rw [hl] at hp; omega
    refine ⟨_, hc 0 _ rfl, _, hc 1 _ rfl, _, _, _, hc 2 _ rfl, k.vnew fun b14 h15 k => k.vall (by rfl) (by rfl) fun h16 k => ⟨_, k.rd (by rfl), _, k.rd (by rfl), _, _, _, k.rd (by rfl), ?_⟩⟩
    obtain ⟨F', G, kF, kG, d, hF, back⟩ := k.pull1.frameA
    refine CallsH.mono (evW_step (e := s.e) (hw.at k.ext hF) kF (hrd.at k.ext hF) (hok _ hsm).1 (hok _ hsm).2 hbl) ?_
    rintro _ h22 ⟨rfl, k2⟩
    have k := back k2
    refine ⟨rfl, l - (j + 1), by omega, j + 1, wrap_nat hjl (by omega), hjl, rfl, ?_⟩
    rw [flat_next hs, firstE_next hs, ← orE_assoc, ← List.append_assoc]
    exact k.only
  · have hjl : j = l := by
      have : ¬ (j : Int) < l := of_decide_eq_false hc
      omega
    subst hjl
    rw [List.take_of_length_le (by omega)] at k
    refine ⟨rfl, ?_⟩
    unfold putL
    rw [hl, ← List.append_assoc]
    exact k
theorem rowW_step {xs : List Val} (k0 : Holds [WB p bs err] F h) (r : Ro F h a (xs.flatMap valV)) (hok : ∀ v ∈ xs, rngV v) (hb : bs.length + (putL encW xs).length ≤ 140737488300000) :
    CallsH Tryd.prog 42 #[.pointer (some ⟨p, 0, none⟩), .slice a xs.length c] h (fun v h' => v = .tuple #[] ∧ St F h h' [WB p (bs ++ putL encW xs) (orE err (firstE faultV xs))]) := by
  refine vf42 _ _ _ _ h _ ?_
  unfold F42
  refine CallsH.mono (valsW_step k0 ⟨xs, r, fun _ _ => trivial, by simp, rfl⟩ hok hb) ?_
  rintro _ h2 ⟨rfl, k⟩
  exact ⟨rfl, rfl, k⟩
theorem rowsW_step {xs : List (List Val)} (k0 : Holds [WB p bs err] F h) (r : RoX rowE F h a l xs) (hok : ∀ x ∈ xs, ∀ v ∈ x, rngV v) (hb : bs.length + (putL (putL encW) xs).length ≤ 140737488300000) :
    CallsH Tryd.prog 41 #[.pointer (some ⟨p, 0, none⟩), .slice a l c, .func (.func 42) #[.pointer (some ⟨p, 0, none⟩)] #[]] h (fun v h' => v = .tuple #[] ∧ St F h h' [WB p (bs ++ putL (putL encW) xs) (orE err (firstE (firstE faultV) xs))]) := by
  refine vf41 _ _ _ _ _ h _ ?_
  unfold F41
  have k := St.start k0
  have hl := r.len
  have hp : (putL (putL encW) xs).length = (putN xs.length).length + (xs.flatMap (putL encW)).length := by unfold putL; rw [List.length_append]
  have hf := flat_ge (p := (putL encW)) (P := fun _ => True) (fun y _ => putL_pos _ y) (xs := xs) fun _ _ => trivial
  obtain ⟨F', G, kF, kG, d, hF, back⟩ := k.frameA
  refine CallsH.mono (numW_step (n := (l : Int)) kF ⟨by omega, by omega⟩ (by rw [← hl]; omega)) ?_
  rintro _ h2 ⟨rfl, k2⟩
  have k := back k2
  clear back kF kG d hF
  refine ⟨rfl, fun m h' i => ∃ j : Nat, i = j ∧ j ≤ l ∧ m = l - j ∧ St F h h' [WB p (bs ++ putN l ++ (xs.take j).flatMap (putL encW)) (orE err (firstE (firstE faultV) (xs.take j)))], ⟨_, 0, rfl, by omega, rfl, ?_⟩, ?_⟩
  · rw [List.take_zero, List.flatMap_nil, List.append_nil]
    show St F h h2 [WB p (bs ++ putN l) (orE err 0)]
    rw [orE_zero]; exact k
  clear k
  rintro m h5 _ i ⟨j, rfl, hj, rfl, k⟩
  refine cond_split (fun hc => ?_) (fun hc => ?_)
  · have hjl : j < l := Int.ofNat_lt.1 (of_decide_eq_true hc)
    refine r.one k.ext (by omega) (by omega) fun ad s hs hc hrd => ?_
    rw [Int.toNat_natCast] at hs
    have hsm := List.mem_of_getElem? hs
    have hle := flat_take_le (f := (putL encW)) hs
    have hbl : (bs ++ putN l ++ (xs.take j).flatMap (putL encW)).length + ((putL encW) (rowE.val s)).length ≤ 140737488300000 := by
      rw [List.length_append, List.length_append]
      rw [hl] at hp; omega
    refine ⟨_, _, _, hc 0 _ rfl, ?_⟩
    obtain ⟨F', G, kF, kG, d, hF, back⟩ := k.frameA
    refine CallsH.mono (rowW_step kF (hrd.at k.ext hF) (hok _ hsm) hbl) ?_
    rintro _ h22 ⟨rfl, k2⟩
    have k := back k2
    refine ⟨rfl, l - (j + 1), by omega, j + 1, wrap_nat hjl (by omega), hjl, rfl, ?_⟩
    rw [flat_next hs, firstE_next hs, ← orE_assoc, ← List.append_assoc]
    exact k
  · have hjl : j = l := by
      have : ¬ (j : Int) < l := of_decide_eq_false hc
      omega
    subst hjl
    rw [List.take_of_length_le (by omega)] at k
    refine ⟨rfl, ?_⟩
    unfold putL
    rw [hl, ← List.append_assoc]
    exact k
theorem hitW_step {x : Hi} (k0 : Holds [WB p bs err] F h) (r : Ro F h a (x.row.flatMap valV)) (hok : ∀ v ∈ x.row, rngV v) (hb : bs.length + (putHW x).length ≤ 140737488300000) :
    CallsH Tryd.prog 38 #[.pointer (some ⟨p, 0, none⟩), .agg #[.string (bA x.q), .slice a x.row.length c]] h (fun v h' => v = .tuple #[] ∧ St F h h' [WB p (bs ++ putHW x) (orE err (firstE faultV x.row))]) := by
  refine vf38 _ _ _ _ _ h _ ?_
  unfold F38
  have k := St.start k0
  have hl : (putHW x).length = (putS x.q).length + (putL encW x.row).length := by unfold putHW; rw [List.length_append]
  refine k.vnew fun b1 h2 k => ⟨_, k.rd (by rfl), ?_⟩
  obtain ⟨F', G, kF, kG, d, hF, back⟩ := k.pull1.frameA
  refine CallsH.mono (texW_step kF (by omega)) ?_
  rintro _ h5 ⟨rfl, k2⟩
  have k := back k2
  clear back kF kG d hF
  refine ⟨rfl, _, _, _, k.rd (by rfl), ?_⟩
  obtain ⟨F', G, kF, kG, d, hF, back⟩ := k.frameA
  refine CallsH.mono (rowW_step kF (r.at k.ext hF) hok (by rw [List.length_append]; omega)) ?_
  rintro _ h8 ⟨rfl, k2⟩
  have k := (back k2).only
  rw [List.append_assoc] at k
  exact ⟨rfl, rfl, k⟩
theorem hitsW_step {xs : List (Hi)} (k0 : Holds [WB p bs err] F h) (r : RoX hitE F h a l xs) (hok : ∀ x ∈ xs, ∀ v ∈ x.row, rngV v) (hb : bs.length + (putL putHW xs).length ≤ 140737488300000) :
    CallsH Tryd.prog 37 #[.pointer (some ⟨p, 0, none⟩), .slice a l c, .func (.func 38) #[.pointer (some ⟨p, 0, none⟩)] #[]] h (fun v h' => v = .tuple #[] ∧ St F h h' [WB p (bs ++ putL putHW xs) (orE err (firstE (fun x => firstE faultV x.row) xs))]) := by
  refine vf37 _ _ _ _ _ h _ ?_
  unfold F37
  have k := St.start k0
  have hl := r.len
  have hp : (putL putHW xs).length = (putN xs.length).length + (xs.flatMap putHW).length := by unfold putL; rw [List.length_append]
  have hf := flat_ge (p := putHW) (P := fun _ => True) (fun y _ => by have := putS_pos y.q; unfold putHW; rw [List.length_append]; omega) (xs := xs) fun _ _ => trivial
  obtain ⟨F', G, kF, kG, d, hF, back⟩ := k.frameA
  refine CallsH.mono (numW_step (n := (l : Int)) kF ⟨by omega, by omega⟩ (by rw [← hl]; omega)) ?_
  rintro _ h2 ⟨rfl, k2⟩
  have k := back k2
  clear back kF kG d hF
  refine ⟨rfl, fun m h' i => ∃ j : Nat, i = j ∧ j ≤ l ∧ m = l - j ∧ St F h h' [WB p (bs ++ putN l ++ (xs.take j).flatMap putHW) (orE err (firstE (fun x => firstE faultV x.row) (xs.take j)))], ⟨_, 0, rfl, by omega, rfl, ?_⟩, ?_⟩
  · rw [List.take_zero, List.flatMap_nil, List.append_nil]
    show St F h h2 [WB p (bs ++ putN l) (orE err 0)]
    rw [orE_zero]; exact k
  clear k
  rintro m h5 _ i ⟨j, rfl, hj, rfl, k⟩
  refine cond_split (fun hc => ?_) (fun hc => ?_)
  · have hjl : j < l := Int.ofNat_lt.1 (of_decide_eq_true hc)
    refine r.one k.ext (by omega) (by omega) fun ad s hs hc hrd => ?_
    rw [Int.toNat_natCast] at hs
    have hsm := List.mem_of_getElem? hs
    have hle := flat_take_le (f := putHW) hs
    have hbl : (bs ++ putN l ++ (xs.take j).flatMap putHW).length + (putHW (hitE.val s)).length ≤ 140737488300000 := by
      rw [List.length_append, List.length_append]
      rw [hl] at hp; omega
    refine ⟨_, hc 0 _ rfl, _, _, _, hc 1 _ rfl, k.vnew fun b14 h15 k => k.vall (by rfl) (by rfl) fun h16 k => ⟨_, k.rd (by rfl), _, _, _, k.rd (by rfl), ?_⟩⟩
    obtain ⟨F', G, kF, kG, d, hF, back⟩ := k.pull1.frameA
    refine CallsH.mono (hitW_step kF (hrd.at k.ext hF) (hok _ hsm) hbl) ?_
    rintro _ h22 ⟨rfl, k2⟩
    have k := back k2
    refine ⟨rfl, l - (j + 1), by omega, j + 1, wrap_nat hjl (by omega), hjl, rfl, ?_⟩
    rw [flat_next hs, firstE_next hs, ← orE_assoc, ← List.append_assoc]
    exact k.only
  · have hjl : j = l := by
      have : ¬ (j : Int) < l := of_decide_eq_false hc
      omega
    subst hjl
    rw [List.take_of_length_le (by omega)] at k
    refine ⟨rfl, ?_⟩
    unfold putL
    rw [hl, ← List.append_assoc]
    exact k
theorem errW_step {tq q : Nat} {n : Int} (k0 : Holds [WB p bs err, A.blk q #[.pointer (some ⟨p, 0, none⟩)] tq] F h) (hn : rng64 n) (hb : bs.length + (putN n).length ≤ 140737488300000) : CallsH Tryd.prog 36 #[.int .i64 n, .pointer (some ⟨q, 0, none⟩)] h
    (fun v h' => v = .tuple #[] ∧ St F h h' [WB p (bs ++ putN n) err, A.blk q #[.pointer (some ⟨p, 0, none⟩)] tq]) := by
  refine vf36 _ _ h _ ?_
  unfold F36
  have k := St.start k0
  refine VSome.mk ⟨_, k.rd (by rfl), ?_⟩
  obtain ⟨F', G, kF, kG, d, hF, back⟩ := k.frameA
  refine CallsH.mono (numW_step kF hn hb) ?_
  rintro _ h4 ⟨rfl, k2⟩
  exact ⟨rfl, rfl, back k2⟩
theorem first_zero {α : Type} : ∀ xs : List α, firstE (fun _ => 0) xs = 0
  | [] => rfl
  | x :: xs => by unfold firstE; rw [first_zero xs]; rfl
theorem errsW_step {tq q : Nat} {xs : List (Int)} (k0 : Holds [WB p bs err, A.blk q #[.pointer (some ⟨p, 0, none⟩)] tq] F h) (r : RoX errE F h a l xs) (hok : ∀ x ∈ xs, rng64 x) (hb : bs.length + (putL putN xs).length ≤ 140737488300000) :
    CallsH Tryd.prog 35 #[.pointer (some ⟨p, 0, none⟩), .slice a l c, .func (.func 36) #[] #[.pointer (some ⟨q, 0, none⟩)]] h (fun v h' => v = .tuple #[] ∧ St F h h' [WB p (bs ++ putL putN xs) (orE err (firstE (fun _ => 0) xs)), A.blk q #[.pointer (some ⟨p, 0, none⟩)] tq]) := by
  refine vf35 _ _ _ _ _ h _ ?_
  unfold F35
  have k := St.start k0
  have hl := r.len
  have hp : (putL putN xs).length = (putN xs.length).length + (xs.flatMap putN).length := by unfold putL; rw [List.length_append]
  have hf := flat_ge (p := putN) (P := fun _ => True) (fun y _ => putN_pos y) (xs := xs) fun _ _ => trivial
  obtain ⟨F', G, kF, kG, d, hF, back⟩ := k.frameA
  refine CallsH.mono (numW_step (n := (l : Int)) kF ⟨by omega, by omega⟩ (by rw [← hl]; omega)) ?_
  rintro _ h2 ⟨rfl, k2⟩
  have k := back k2
  clear back kF kG d hF
  refine ⟨rfl, fun m h' i => ∃ j : Nat, i = j ∧ j ≤ l ∧ m = l - j ∧ St F h h' [WB p (bs ++ putN l ++ (xs.take j).flatMap putN) (orE err (firstE (fun _ => 0) (xs.take j))), A.blk q #[.pointer (some ⟨p, 0, none⟩)] tq], ⟨_, 0, rfl, by omega, rfl, ?_⟩, ?_⟩
  · rw [List.take_zero, List.flatMap_nil, List.append_nil]
    show St F h h2 [WB p (bs ++ putN l) (orE err 0), A.blk q #[.pointer (some ⟨p, 0, none⟩)] tq]
    rw [orE_zero]; exact k
  clear k
  rintro m h5 _ i ⟨j, rfl, hj, rfl, k⟩
  refine cond_split (fun hc => ?_) (fun hc => ?_)
  · have hjl : j < l := Int.ofNat_lt.1 (of_decide_eq_true hc)
    refine r.one k.ext (by omega) (by omega) fun ad s hs hc hrd => ?_
    rw [Int.toNat_natCast] at hs
    have hsm := List.mem_of_getElem? hs
    have hle := flat_take_le (f := putN) hs
    have hbl : (bs ++ putN l ++ (xs.take j).flatMap putN).length + (putN (errE.val s)).length ≤ 140737488300000 := by
      rw [List.length_append, List.length_append]
      rw [hl] at hp; omega
    refine ⟨_, hc 0 _ rfl, ?_⟩
    obtain ⟨F', G, kF, kG, d, hF, back⟩ := k.frameB
    refine CallsH.mono (errW_step kF (hok _ hsm) hbl) ?_
    rintro _ h22 ⟨rfl, k2⟩
    have k := back k2
    refine ⟨rfl, l - (j + 1), by omega, j + 1, wrap_nat hjl (by omega), hjl, rfl, ?_⟩
    rw [flat_next hs, firstE_next hs, ← orE_assoc, ← List.append_assoc]
    exact (by rw [orE_zero]; exact k)
  · have hjl : j = l := by
      have : ¬ (j : Int) < l := of_decide_eq_false hc
      omega
    subst hjl
    rw [List.take_of_length_le (by omega)] at k
    refine ⟨rfl, ?_⟩
    unfold putL
    rw [hl, ← List.append_assoc]
    exact k
end Go.Proofs.YtgdgebmlcgohhaaDoor.F
