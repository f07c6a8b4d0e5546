/- Package proto: the program's writer: bytes, numbers, texts, truths, events, values. Conditions: none. -/
import Derived.Test.YtgdgebmlcgohhaaDoorQ8
namespace Go.Proofs.YtgdgebmlcgohhaaDoor.F
open Go Go.VC Go.Proofs
set_option linter.unusedSimpArgs false
set_option linter.unusedVariables false
set_option maxRecDepth 100000
attribute [local irreducible] CallsH RunsTo PureTo

def orE (e1 e2 : Int) : Int := if e1 = 0 then e2 else e1
theorem orE_zero (e : Int) : orE e 0 = e := by unfold orE; split <;> simp_all
theorem zero_orE (e : Int) : orE 0 e = e := if_pos rfl
theorem orE_assoc (a b c : Int) : orE (orE a b) c = orE a (orE b c) := by
  unfold orE
  by_cases h : a = 0
  · simp [h]
  · simp [h]
def firstE {α : Type} (f : α → Int) : List α → Int
  | [] => 0
  | x :: r => orE (f x) (firstE f r)
theorem firstE_next {α : Type} {f : α → Int} {xs : List α} : ∀ {j : Nat} {x : α}, xs[j]? = some x → firstE f (xs.take (j + 1)) = orE (firstE f (xs.take j)) (f x) := by
  induction xs with
  | nil => intro j x h; simp at h
  | cons y xs ih =>
    intro j x h
    cases j with
    | zero =>
      simp at h; subst h
      simp only [Nat.zero_add, List.take_succ_cons, List.take_zero, firstE, orE_zero, zero_orE]
    | succ j =>
      simp only [List.take_succ_cons, firstE]
      rw [ih (by simpa using h), orE_assoc]
theorem flat_take_le {α β : Type} {f : α → List β} {xs : List α} : ∀ {j : Nat} {x : α}, xs[j]? = some x → ((xs.take j).flatMap f).length + (f x).length ≤ (xs.flatMap f).length := by
  induction xs with
  | nil => intro j x h; simp at h
  | cons y xs ih =>
    intro j x h
    cases j with
    | zero =>
      simp at h; subst h
      simp [List.flatMap_cons, List.length_append]
    | succ j =>
      have := ih (j := j) (x := x) (by simpa using h)
      rw [List.take_succ_cons, List.flatMap_cons, List.flatMap_cons, List.length_append, List.length_append]
      omega
variable {S F G : Nat → Prop} {h0 h h1 : Heap} {L R L' : List A} {a b a1 a2 : Option Addr} {l c l1 c1 l2 c2 p t : Nat} {bs cs bs1 bs2 : List UInt8} {err e1 : Int} {v : Val}
/-- The writer in memory: its bytes, its first fault. -/
def WB (p : Nat) (bs : Bytes) (err : Int) : A := A.ex fun x : Option Addr × Nat => A.all [A.blk p #[.slice x.1 bs.length x.2, .int .i64 err] 83, BV x.1 bs.length x.2 bs]
theorem WB.open (k : St S h0 h (WB p bs err :: R)) : ∃ a c, St S h0 h (A.blk p #[.slice a bs.length c, .int .i64 err] 83 :: BV a bs.length c bs :: R) := by
  obtain ⟨x, k⟩ := St.opens k
  exact ⟨x.1, x.2, St.open (L := [A.blk p #[.slice x.1 bs.length x.2, .int .i64 err] 83, BV x.1 bs.length x.2 bs]) k⟩
theorem WB.close (k : St S h0 h (A.blk p #[.slice a bs.length c, .int .i64 err] 83 :: BV a bs.length c bs :: R)) : St S h0 h (WB p bs err :: R) :=
  St.closes (f := fun x : Option Addr × Nat => A.all [A.blk p #[.slice x.1 bs.length x.2, .int .i64 err] 83, BV x.1 bs.length x.2 bs]) (x := (a, c)) (St.close (L := [A.blk p #[.slice a bs.length c, .int .i64 err] 83, BV a bs.length c bs]) k)
theorem failW_step (k0 : Holds [WB p bs err] F h) (e : Int) : CallsH Tryd.prog 87 #[.pointer (some ⟨p, 0, none⟩), .int .i64 e] h (fun v h' => v = .tuple #[] ∧ St F h h' [WB p bs (orE err e)]) := by
  refine vf87 _ _ h _ ?_
  unfold F87
  obtain ⟨a, c, k⟩ := WB.open (St.start k0)
  refine VSome.mk ⟨_, k.rd (by rfl), cond_split (fun hc => ?_) (fun hc => ?_)⟩
  · have hc : err = 0 := by simpa using hc
    unfold orE
    rw [if_pos hc]
    exact VSome.mk (k.vst (Nat.le_of_ble_eq_true (by rfl)) fun _ k => ⟨rfl, WB.close k⟩)
  · have hc : err ≠ 0 := by simpa using hc
    unfold orE
    rw [if_neg hc]
    exact ⟨rfl, WB.close k⟩
theorem numW_step {n : Int} (k0 : Holds [WB p bs err] F h) (hn : rng64 n) (hb : bs.length + (putN n).length ≤ 140737488300000) : CallsH Tryd.prog 34 #[.pointer (some ⟨p, 0, none⟩), .int .i64 n] h (fun v h' => v = .tuple #[] ∧ St F h h' [WB p (bs ++ putN n) err]) := by
  refine vf34 _ _ h _ ?_
  unfold F34
  obtain ⟨a, c, k⟩ := WB.open (St.start k0)
  refine VSome.mk ⟨_, _, _, k.rd (by rfl), ?_⟩
  refine CallsH.mono (PutInt_spec hn.1 hn.2) ?_
  rintro _ h4 ⟨a5, c5, rfl, k2⟩
  have k := k.add1 k2
  refine ⟨_, _, _, rfl, k.rd (by rfl), ?_⟩
  refine app_bytes (s := putN n) k.pull2 (k.sl (a := a5)) (by omega) fun a8 c8 h7 k => ⟨_, _, _, rfl, VSome.mk (k.vst (Nat.le_of_ble_eq_true (by rfl)) fun h10 k => ⟨rfl, ?_⟩)⟩
  have k := k.pull2.only2
  have e : bs.length + (putN n).length = (bs ++ putN n).length := by rw [List.length_append]
  rw [e] at k
  exact WB.close k
theorem texW_step {s : Bytes} (k0 : Holds [WB p bs err] F h) (hb : bs.length + (putS s).length ≤ 140737488300000) : CallsH Tryd.prog 40 #[.pointer (some ⟨p, 0, none⟩), .string (bA s)] h (fun v h' => v = .tuple #[] ∧ St F h h' [WB p (bs ++ putS s) err]) := by
  refine vf40 _ _ h _ ?_
  unfold F40
  rw [putS_len] at hb
  rw [bA_size]
  refine CallsH.mono (numW_step k0 ⟨by omega, by omega⟩ (by omega)) ?_
  rintro _ h2 ⟨rfl, k⟩
  obtain ⟨a, c, k⟩ := WB.open k
  refine ⟨rfl, VSome.mk ⟨_, _, _, k.rd (by rfl), ?_⟩⟩
  refine app_text s k.pull1 (by rw [List.length_append]; omega) fun a8 c8 h7 k => ⟨_, _, _, rfl, VSome.mk (k.vst (Nat.le_of_ble_eq_true (by rfl)) fun h10 k => ⟨rfl, ?_⟩)⟩
  have k := k.pull1
  have e : (bs ++ putN s.length).length + s.length = (bs ++ putS s).length := by unfold putS; simp only [List.length_append]; omega
  have e2 : bs ++ putN s.length ++ s = bs ++ putS s := by unfold putS; rw [List.append_assoc]
  rw [e, e2] at k
  exact WB.close k
theorem truW_step {x : Bool} (k0 : Holds [WB p bs err] F h) (hb : bs.length + 1 ≤ 140737488300000) : CallsH Tryd.prog 33 #[.pointer (some ⟨p, 0, none⟩), .bool x] h (fun v h' => v = .tuple #[] ∧ St F h h' [WB p (bs ++ truB x) err]) := by
  refine vf33 _ _ h _ ?_
  unfold F33
  obtain ⟨a, c, k⟩ := WB.open (St.start k0)
  have e : ∀ y : UInt8, bs.length + 1 = (bs ++ [y]).length := fun y => by simp
  cases x
  · refine cond_false rfl (VSome.mk ⟨_, _, _, k.rd (by rfl), k.vnew fun b12 h13 k => ?_⟩)
    refine app_byte (x := 0) (k.pull2.pull1) (by omega) fun a16 c16 h15 k => ⟨_, _, _, rfl, VSome.mk (k.vst (Nat.le_of_ble_eq_true (by rfl)) fun h10 k => ⟨rfl, ?_⟩)⟩
    have k := k.pull1
    rw [e 0] at k
    exact WB.close k
  · refine cond_true rfl (VSome.mk ⟨_, _, _, k.rd (by rfl), k.vnew fun b12 h13 k => ?_⟩)
    refine app_byte (x := 1) (k.pull2.pull1) (by omega) fun a16 c16 h15 k => ⟨_, _, _, rfl, VSome.mk (k.vst (Nat.le_of_ble_eq_true (by rfl)) fun h10 k => ⟨rfl, ?_⟩)⟩
    have k := k.pull1
    rw [e 1] at k
    exact WB.close k
theorem evW_step {e : Ev} {lc : Nat} (hw : Wd F h) (k0 : Holds [WB p bs err] F h) (he : Ro F h a (e.vs.flatMap valV)) (hr : rngE e) (hl : e.vs.length ≤ 1099511627776) (hb : bs.length + (encF e).length ≤ 140737488300000) :
    CallsH Tryd.prog 73 #[.pointer (some ⟨p, 0, none⟩), aggE e a e.vs.length lc] h (fun v h' => v = .tuple #[] ∧ St F h h' [WB p (bs ++ encF e) (orE err (faultE e))]) := by
  refine vf73 _ _ _ _ _ _ h _ ?_
  unfold F73
  have k := St.start k0
  refine k.vnew fun b1 h2 k => ⟨_, k.rd (by rfl), _, k.rd (by rfl), _, _, _, k.rd (by rfl), ?_⟩
  refine CallsH.mono (encode_spec (e := e) (hw.at k.ext fun b hb => .inl hb).sl.ro ⟨(he.at k.ext fun b hb => .inl hb).sl.ro, rfl, hr⟩ hl) ?_
  rintro _ h7 ⟨a8, c8, rfl, k2⟩
  have k := k.add1 k2
  refine ⟨_, _, _, _, rfl, fun h' => St F h h' [WB p bs (orE err (faultE e)), BV a8 (encF e).length c8 (encF e)], ?_, ?_⟩
  · refine cond_split (fun hc => ?_) (fun hc => ?_)
    · obtain ⟨F', G, kF, kG, d, hF, back⟩ := k.pull2.frameA
      refine CallsH.mono (failW_step kF (faultE e)) ?_
      rintro _ h12 ⟨rfl, k2⟩
      exact ⟨rfl, (back k2).only2⟩
    · have hc : faultE e = 0 := by simpa using hc
      rw [hc, orE_zero]
      exact k.pull2.only2
  clear k
  rintro h13 _ k
  obtain ⟨a, c, k⟩ := WB.open k
  refine VSome.mk ⟨_, _, _, k.rd (by rfl), ?_⟩
  refine app_bytes (s := encF e) k.pull1 (k.sl (a := a8)) (by omega) fun a8 c8 h7 k => ⟨_, _, _, rfl, VSome.mk (k.vst (Nat.le_of_ble_eq_true (by rfl)) fun h10 k => ⟨rfl, ?_⟩)⟩
  have k := k.pull1.only2
  have e : bs.length + (encF e).length = (bs ++ encF e).length := by rw [List.length_append]
  rw [e] at k
  exact WB.close k
def faultV (v : Val) : Int := if validV v then 0 else 12
theorem valW_step (k0 : Holds [WB p bs err] F h) (hr : rngV v) (hb : bs.length + (encW v).length ≤ 140737488300000) :
    CallsH Tryd.prog 81 #[.pointer (some ⟨p, 0, none⟩), aggV v] h (fun w h' => w = .tuple #[] ∧ St F h h' [WB p (bs ++ encW v) (orE err (faultV v))]) := by
  refine vf81 _ _ _ _ _ h _ ?_
  unfold F81
  have k := St.start k0
  refine k.vnew fun b1 h2 k => ⟨fun h' => St F h h' [WB p bs (orE err (faultV v)), A.blk b1 (valV v).toArray 134], ⟨_, k.rd (by rfl), _, k.rd (by rfl), _, k.rd (by rfl), _, k.rd (by rfl), ?_⟩, ?_⟩
  · refine CallsH.mono (valid_spec v) ?_
    rintro _ h9 ⟨rfl, m⟩
    have k := k.next m
    refine ⟨_, rfl, ?_⟩
    unfold faultV
    cases validV v
    · refine cond_true rfl ?_
      obtain ⟨F', G, kF, kG, d, hF, back⟩ := k.pull1.frameA
      refine CallsH.mono (failW_step kF 12) ?_
      rintro _ h12 ⟨rfl, k2⟩
      exact ⟨rfl, back k2⟩
    · refine cond_false rfl ?_
      rw [if_pos rfl, orE_zero]
      exact k.pull1
  clear k
  rintro h13 _ k
  generalize orE err (faultV v) = err2 at k ⊢
  obtain ⟨a, c, k⟩ := WB.open k
  have eb : (.int .u8 (IntKind.u8.wrap v.k) : Value) = byteV (UInt8.ofNat (v.k % 256).toNat) := by
    rw [byteV_of, wrap_u8]; congr 1; omega
  refine VSome.mk ⟨_, _, _, k.rd (by rfl), _, k.rd (by rfl), ?_⟩
  rw [eb]
  refine k.vnew fun b18 h19 k => ⟨k.rd (by rfl), ?_⟩
  refine app_byte k.pull2.pull1 (by unfold encW at hb; rw [List.length_cons] at hb; omega) fun a22 c22 h21 k => ⟨_, _, _, rfl, VSome.mk (k.vst (Nat.le_of_ble_eq_true (by rfl)) fun h24 k => ?_)⟩
  generalize hB : UInt8.ofNat (v.k % 256).toNat = B at *
  have e : bs.length + 1 = (bs ++ [B]).length := by simp
  rw [e] at k
  have k := WB.close k.pull1
  have ee : bs ++ encW v = bs ++ [B] ++ (if v.k = 1 then putN v.n else if v.k = 2 then putS v.s else truB v.b) := by unfold encW; rw [hB, List.append_assoc]; rfl
  have hl : (bs ++ [B]).length + (if v.k = 1 then putN v.n else if v.k = 2 then putS v.s else truB v.b).length ≤ 140737488300000 := by
    have := congrArg List.length ee
    rw [List.length_append, List.length_append] at this
    omega
  rw [ee]
  refine ⟨_, k.rd (by rfl), cond_split (fun hc => ?_) (fun hc => ?_)⟩
  · have hc : v.k = 1 := by simpa using hc
    rw [if_pos hc] at hl ⊢
    refine ⟨_, k.rd (by rfl), ?_⟩
    obtain ⟨F', G, kF, kG, d, hF, back⟩ := k.frameA
    refine CallsH.mono (numW_step kF hr hl) ?_
    rintro _ h12 ⟨rfl, k2⟩
    exact ⟨rfl, rfl, (back k2).only⟩
  have h1 : v.k ≠ 1 := by simpa using hc
  rw [if_neg h1] at hl ⊢
  refine cond_split (fun hc => ?_) (fun hc => ?_)
  · have hc : v.k = 2 := by simpa using hc
    rw [if_pos hc] at hl ⊢
    refine ⟨_, k.rd (by rfl), ?_⟩
    obtain ⟨F', G, kF, kG, d, hF, back⟩ := k.frameA
    refine CallsH.mono (texW_step kF hl) ?_
    rintro _ h12 ⟨rfl, k2⟩
    exact ⟨rfl, rfl, (back k2).only⟩
  · have h2 : v.k ≠ 2 := by simpa using hc
    rw [if_neg h2] at hl ⊢
    refine ⟨_, k.rd (by rfl), ?_⟩
    obtain ⟨F', G, kF, kG, d, hF, back⟩ := k.frameA
    refine CallsH.mono (truW_step (x := v.b) kF hl) ?_
    rintro _ h12 ⟨rfl, k2⟩
    exact ⟨rfl, rfl, (back k2).only⟩
def doneR (bs : Bytes) (err : Int) : Bytes × Int := if err ≠ 0 then ([], err) else if 65528 < bs.length then ([], 2) else (bs, 0)
theorem doneW_spec (k0 : Holds [WB p bs err] F h) : CallsH Tryd.prog 28 #[.pointer (some ⟨p, 0, none⟩)] h (fun v h' => ∃ x c, v = .tuple #[.slice x (doneR bs err).1.length c, .int .i64 (doneR bs err).2] ∧ St F h h' [BV x (doneR bs err).1.length c (doneR bs err).1]) := by
  refine vf28 _ h _ ?_
  unfold F28
  obtain ⟨a, c, k⟩ := WB.open (St.start k0)
  refine VSome.mk ⟨_, k.rd (by rfl), cond_split (fun hc => ?_) (fun hc => ?_)⟩
  · have hc : err ≠ 0 := by simpa using hc
    have e : doneR bs err = ([], err) := if_pos hc
    rw [e]
    exact VSome.mk ⟨_, k.rd (by rfl), none, 0, rfl, (k.drop.drop.vnil 5 (sz := 1) (by omega))⟩
  · have hc : err = 0 := by simpa using hc
    have e0 : doneR bs err = if 65528 < bs.length then ([], 2) else (bs, 0) := if_neg fun h => h hc
    refine VSome.mk ⟨_, _, _, k.rd (by rfl), cond_split (fun hc => ?_) (fun hc => ?_)⟩
    · have hc : 65528 < bs.length := by
        have : (bs.length : Int) > 65528 := of_decide_eq_true hc
        omega
      rw [if_pos hc] at e0
      rw [e0]
      exact ⟨none, 0, rfl, (k.drop.drop.vnil 5 (sz := 1) (by omega))⟩
    · have hc : ¬ 65528 < bs.length := by
        have : ¬ (bs.length : Int) > 65528 := of_decide_eq_false hc
        omega
      rw [if_neg hc] at e0
      rw [e0]
      exact VSome.mk ⟨_, _, _, k.rd (by rfl), a, c, rfl, k.drop⟩
end Go.Proofs.YtgdgebmlcgohhaaDoor.F
