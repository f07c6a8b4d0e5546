/- Package proto: a reply is written and read. Conditions: none. -/
import Derived.Test.YtgdgebmlcgohhaaDoorQD
namespace Go.Proofs.YtgdgebmlcgohhaaDoor.F
open Go Go.VC Go.Proofs
set_option linter.unusedSimpArgs false
set_option linter.unusedVariables false
set_option maxRecDepth 100000
attribute [local irreducible] CallsH RunsTo PureTo

variable {S F G : Nat → Prop} {h0 h h1 : Heap} {L R L' : List A} {a b a1 a2 ga ha na ra : Option Addr} {l c l1 c1 l2 c2 p t gc hc nc rc b1 : Nat} {bs cs bs1 bs2 : List UInt8} {err e1 : Int} {v : Val} {bad bad1 : Bool} {q q2 : Rp}
abbrev rpV (q : Rp) (ga : Option Addr) (gc : Nat) (ha : Option Addr) (hc : Nat) (na : Option Addr) (nc : Nat) (ra : Option Addr) (rc : Nat) : List Value := [.int .u32 (q.id : Int), .bool q.note, .int .i64 q.err, .int .i64 q.at_, .slice ga q.errs.length gc, .slice ha q.hits.length hc, .slice na q.names.length nc, .slice ra q.rows.length rc, .int .i64 q.since, .int .i64 q.open_, .int .i64 q.nodes, .bool q.over]
abbrev aggP (q : Rp) (ga : Option Addr) (gc : Nat) (ha : Option Addr) (hc : Nat) (na : Option Addr) (nc : Nat) (ra : Option Addr) (rc : Nat) : Value := .agg (rpV q ga gc ha hc na nc ra rc).toArray
structure RpRo (F : Nat → Prop) (h : Heap) (q : Rp) (ga ha na ra : Option Addr) : Prop where
  errs : RoX errE F h ga q.errs.length q.errs
  hits : RoX hitE F h ha q.hits.length q.hits
  names : RoX texE F h na q.names.length q.names
  rows : RoX rowE F h ra q.rows.length q.rows
theorem RpRo.at (k : RpRo S h0 q ga ha na ra) (m : Mod S h0 h) (hf : ∀ b, F b → S b ∨ h0.size ≤ b) : RpRo F h q ga ha na ra := ⟨k.errs.at m hf, k.hits.at m hf, k.names.at m hf, k.rows.at m hf⟩
/-- What is asked of a reply's size. -/
structure RpOk (q : Rp) : Prop where
  id : q.id < 4294967296
  err : rng64 q.err
  at_ : rng64 q.at_
  errs : ∀ n ∈ q.errs, rng64 n
  hits : ∀ x ∈ q.hits, ∀ v ∈ x.row, rngV v
  rows : ∀ x ∈ q.rows, ∀ v ∈ x, rngV v
  since : rng64 q.since
  open_ : rng64 q.open_
  nodes : rng64 q.nodes
  big : (putW q).length ≤ 1099511627776
theorem first12 {α : Type} (f : α → Bool) : ∀ xs : List α, firstE (fun x => if f x then 0 else 12) xs = if xs.all f then 0 else 12
  | [] => rfl
  | x :: xs => by
    unfold firstE orE
    rw [first12 f xs, List.all_cons]
    cases f x <;> simp
theorem first_row (r : List Val) : firstE faultV r = if r.all validV then 0 else 12 := first12 validV r
theorem tell_done (q : Rp) : tellR q = doneR (putW q) (orE (firstE (fun x => firstE faultV x.row) q.hits) (firstE (firstE faultV) q.rows)) := by
  have e1 : firstE (fun x : Hi => firstE faultV x.row) q.hits = if (q.hits.all fun x => x.row.all validV) then 0 else 12 := by
    rw [← first12]
    congr 1
    funext x
    exact first_row x.row
  have e2 : firstE (firstE faultV) q.rows = if (q.rows.all fun r => r.all validV) then 0 else 12 := by
    rw [← first12]
    congr 1
    funext x
    exact first_row x
  rw [e1, e2]
  unfold tellR soundP doneR orE
  cases (q.hits.all fun x => x.row.all validV) <;> cases (q.rows.all fun r => r.all validV) <;> simp
theorem tell_spec (ok : RpOk q) (r : RpRo none_ h q ga ha na ra) : CallsH Tryd.prog 11 #[aggP q ga gc ha hc na nc ra rc] h
    (fun v h' => ∃ x c, v = .tuple #[.slice x (tellR q).1.length c, .int .i64 (tellR q).2] ∧ St none_ h h' [BV x (tellR q).1.length c (tellR q).1]) := by
  refine vf11 _ _ _ _ _ _ _ _ _ _ _ _ _ _ _ _ _ _ _ _ h _ ?_
  unfold F11
  have hbig := ok.big
  simp only [putW, List.length_append] at hbig
  have k := St.fresh h
  refine k.vnew fun b1 h2 k => k.vnew fun b3 h4 k => k.vnew fun b5 h6 k => k.vst (Nat.le_of_ble_eq_true (by rfl)) fun h7 k => ?_
  have k : St none_ h h7 [A.blk b5 #[.pointer (some ⟨b3, 0, none⟩)] 80, A.blk b3 #[.slice none 0 0, .int .i64 0] 83, A.blk b1 (rpV q ga gc ha hc na nc ra rc).toArray 34] := k
  have k := (k.vnil 5 (sz := 1) (by omega)).sel 4 [2, 0, 1, 3] rfl (by decide) (L' := [A.blk b3 #[.slice none 0 0, .int .i64 0] 83, BV none 0 0 [], A.blk b5 #[.pointer (some ⟨b3, 0, none⟩)] 80, A.blk b1 (rpV q ga gc ha hc na nc ra rc).toArray 34]) (by rfl)
  have k := WB.close (bs := []) k
  refine ⟨_, k.rd (by rfl), _, k.rd (by rfl), ?_⟩
  obtain ⟨F', G, kF, kG, d, hF, back⟩ := k.frameA
  refine CallsH.mono (truW_step kF (by simp)) ?_
  rintro _ _ ⟨rfl, k2⟩
  have k := back k2
  clear back kF kG d hF
  rw [List.nil_append] at k
  refine ⟨rfl, _, k.rd (by rfl), _, k.rd (by rfl), ?_⟩
  have e1 : (truB q.note).length = 1 := rfl
  obtain ⟨a15, c15, k⟩ := WB.open k
  refine VSome.mk ⟨_, _, _, k.rd (by rfl), _, k.rd (by rfl), ?_⟩
  obtain ⟨F', G, kF, kG, d, hF, back⟩ := k.pull1.frameA
  refine CallsH.mono (four_spec q.id kF (by omega)) ?_
  rintro _ h18 ⟨a19, c19, rfl, k2⟩
  have k := back k2
  clear back kF kG d hF
  refine ⟨_, _, _, rfl, k.rd (by rfl), VSome.mk (k.vst (Nat.le_of_ble_eq_true (by rfl)) fun h21 k => ?_)⟩
  rw [← bytesV_app] at k
  have k := WB.close (bs := truB q.note ++ be4 q.id) (a := a19) (c := c19) k.pull1
  have e2 : (be4 q.id).length = 4 := rfl
  refine ⟨_, k.rd (by rfl), _, k.rd (by rfl), ?_⟩
  obtain ⟨F', G, kF, kG, d, hF, back⟩ := k.frameA
  refine CallsH.mono (numW_step kF ok.err (by simp only [List.length_append]; omega)) ?_
  rintro _ _ ⟨rfl, k2⟩
  have k := back k2
  clear back kF kG d hF
  refine ⟨rfl, _, k.rd (by rfl), _, k.rd (by rfl), ?_⟩
  obtain ⟨F', G, kF, kG, d, hF, back⟩ := k.frameA
  refine CallsH.mono (numW_step kF ok.at_ (by simp only [List.length_append]; omega)) ?_
  rintro _ _ ⟨rfl, k2⟩
  have k := back k2
  clear back kF kG d hF
  refine ⟨rfl, _, k.rd (by rfl), _, _, _, k.rd (by rfl), ?_⟩
  obtain ⟨F', G, kF, kG, d, hF, back⟩ := k.frameB
  refine CallsH.mono (errsW_step kF (r.at k.ext hF).errs ok.errs (by simp only [List.length_append]; omega)) ?_
  rintro _ _ ⟨rfl, k2⟩
  have k := back k2
  clear back kF kG d hF
  rw [first_zero, orE_zero] at k
  refine ⟨rfl, _, k.rd (by rfl), _, _, _, k.rd (by rfl), _, k.rd (by rfl), ?_⟩
  obtain ⟨F', G, kF, kG, d, hF, back⟩ := k.frameA
  refine CallsH.mono (hitsW_step kF (r.at k.ext hF).hits ok.hits (by simp only [List.length_append]; omega)) ?_
  rintro _ _ ⟨rfl, k2⟩
  have k := back k2
  clear back kF kG d hF
  rw [zero_orE] at k
  refine ⟨rfl, _, k.rd (by rfl), _, _, _, k.rd (by rfl), _, k.rd (by rfl), ?_⟩
  obtain ⟨F', G, kF, kG, d, hF, back⟩ := k.frameA
  refine CallsH.mono (texsW_step kF (r.at k.ext hF).names (fun _ _ => trivial) (by simp only [List.length_append]; omega)) ?_
  rintro _ _ ⟨rfl, k2⟩
  have k := back k2
  clear back kF kG d hF
  rw [first_zero, orE_zero] at k
  refine ⟨rfl, _, k.rd (by rfl), _, _, _, k.rd (by rfl), _, k.rd (by rfl), ?_⟩
  obtain ⟨F', G, kF, kG, d, hF, back⟩ := k.frameA
  refine CallsH.mono (rowsW_step kF (r.at k.ext hF).rows ok.rows (by simp only [List.length_append]; omega)) ?_
  rintro _ _ ⟨rfl, k2⟩
  have k := back k2
  clear back kF kG d hF
  refine ⟨rfl, _, k.rd (by rfl), _, k.rd (by rfl), ?_⟩
  obtain ⟨F', G, kF, kG, d, hF, back⟩ := k.frameA
  refine CallsH.mono (numW_step kF ok.since (by simp only [List.length_append]; omega)) ?_
  rintro _ _ ⟨rfl, k2⟩
  have k := back k2
  clear back kF kG d hF
  refine ⟨rfl, _, k.rd (by rfl), _, k.rd (by rfl), ?_⟩
  obtain ⟨F', G, kF, kG, d, hF, back⟩ := k.frameA
  refine CallsH.mono (numW_step kF ok.open_ (by simp only [List.length_append]; omega)) ?_
  rintro _ _ ⟨rfl, k2⟩
  have k := back k2
  clear back kF kG d hF
  refine ⟨rfl, _, k.rd (by rfl), _, k.rd (by rfl), ?_⟩
  obtain ⟨F', G, kF, kG, d, hF, back⟩ := k.frameA
  refine CallsH.mono (numW_step kF ok.nodes (by simp only [List.length_append]; omega)) ?_
  rintro _ _ ⟨rfl, k2⟩
  have k := back k2
  clear back kF kG d hF
  refine ⟨rfl, _, k.rd (by rfl), _, k.rd (by rfl), ?_⟩
  have e3 : (truB q.over).length = 1 := rfl
  obtain ⟨F', G, kF, kG, d, hF, back⟩ := k.frameA
  refine CallsH.mono (truW_step kF (by simp only [List.length_append]; omega)) ?_
  rintro _ _ ⟨rfl, k2⟩
  have k := back k2
  clear back kF kG d hF
  refine ⟨rfl, _, k.rd (by rfl), ?_⟩
  have e : truB q.note ++ be4 q.id ++ putN q.err ++ putN q.at_ ++ putL putN q.errs ++ putL putHW q.hits ++ putL putS q.names ++ putL (putL encW) q.rows ++ putN q.since ++ putN q.open_ ++ putN q.nodes ++ truB q.over = putW q := by
    unfold putW; simp only [List.append_assoc]
  rw [e] at k
  rw [tell_done]
  obtain ⟨F', G, kF, kG, d, hF, back⟩ := k.frameA
  refine CallsH.mono (doneW_spec kF) ?_
  rintro _ h84 ⟨x, c, rfl, k2⟩
  have k := (back k2).only
  exact ⟨_, _, _, _, rfl, x, c, rfl, k⟩
theorem _root_.Go.VC.St.frameB3 {x y : A} (k : St S h0 h (x :: y :: R)) : ∃ F G, Holds [x, y] F h ∧ Holds R G h ∧ (∀ b, F b → ¬ G b) ∧ (∀ b, F b → S b ∨ h0.size ≤ b) ∧ ∀ {h' : Heap} {x y z : A}, St F h h' [x, y, z] → St S h0 h' (x :: y :: z :: R) := by
  obtain ⟨F, G, a1, a2, a3, a4, a5⟩ := St.frame (L := [x, y]) k
  exact ⟨F, G, a1, a2, a3, a4, fun q => a5 q⟩
theorem _root_.Go.VC.St.reB (k : St S h0 h L) {b t : Nat} {cs : Array Value} (cs' : Array Value) [p : InB L b cs t] [q : PutB L b cs cs' t L'] (e : cs = cs') : St S h0 h L' :=
  St.put (q := q) k (e ▸ St.blk (q := p) k) (.refl _ _)
theorem _root_.Go.VC.St.only4 {x y z w : A} (k : St S h0 h (x :: y :: z :: w :: R)) : St S h0 h [x, y, z, w] :=
  St.dropL (L := R) (R := [x, y, z, w]) (k.perm (List.perm_append_comm (l₁ := [x, y, z, w]) (l₂ := R)))
theorem told_fin (hle : ¬ 65528 < bs.length) (s : StepO toldO bs false q bs1 bad1) : (bad1 = true ∨ bs1 ≠ [] → toldR bs = (noRp, 301)) ∧ (bad1 = false → bs1 = [] → toldR bs = (q, 0)) := by
  unfold toldR
  rw [if_neg hle]
  rcases s with ⟨h, _⟩ | ⟨_, h2, h3⟩ | ⟨_, h2, h3⟩
  · cases h
  · rw [h3, h2]
    constructor
    · rintro (h | h)
      · cases h
      · cases bs1 with
        | nil => exact absurd rfl h
        | cons x r => rfl
    · intro _ h; rw [h]
  · rw [h3, h2]
    exact ⟨fun _ => rfl, fun h => by cases h⟩
set_option maxHeartbeats 1000000 in
theorem told_spec (hsl : Sl h a (bytesV bs)) (hl : bs.length = l) (hlc : l ≤ c) : CallsH Tryd.prog 12 #[.slice a l c] h
    (fun v h' => ∃ ga gc ha hc na nc ra rc, v = .tuple #[aggP (toldR bs).1 ga gc ha hc na nc ra rc, .int .i64 (toldR bs).2] ∧ St none_ h h' [errE.L ga (toldR bs).1.errs.length gc (toldR bs).1.errs, hitE.L ha (toldR bs).1.hits.length hc (toldR bs).1.hits, texE.L na (toldR bs).1.names.length nc (toldR bs).1.names, rowE.L ra (toldR bs).1.rows.length rc (toldR bs).1.rows]) := by
  refine vf12 _ _ _ h _ ?_
  unfold F12
  have k := St.fresh h
  refine k.vnew fun b1 h2 k => ?_
  have out : ∀ {h' : Heap} {R : List A} (e : Int), St none_ h h' R → toldR bs = (noRp, e) → ∃ ga gc ha hc na nc ra rc, (Value.tuple #[aggP noRp none 0 none 0 none 0 none 0, .int .i64 e]) = .tuple #[aggP (toldR bs).1 ga gc ha hc na nc ra rc, .int .i64 (toldR bs).2] ∧
      St none_ h h' [errE.L ga (toldR bs).1.errs.length gc (toldR bs).1.errs, hitE.L ha (toldR bs).1.hits.length hc (toldR bs).1.hits, texE.L na (toldR bs).1.names.length nc (toldR bs).1.names, rowE.L ra (toldR bs).1.rows.length rc (toldR bs).1.rows] := fun {h' R} e k hr => by
    rw [hr]
    have k := St.dropL (L := R) (R := []) (by rw [List.append_nil]; exact k)
    exact ⟨none, 0, none, 0, none, 0, none, 0, rfl, El.nil errE (El.nil hitE (El.nil texE (El.nil rowE k)))⟩
  refine cond_split (fun hc => ?_) (fun hc => ?_)
  · have hc : 65528 < bs.length := by
      have : (l : Int) > 65528 := of_decide_eq_true hc
      omega
    exact k.vall (by rfl) (by rfl) fun _ k => ⟨_, k.rd (by rfl), _, k.rd (by rfl), _, k.rd (by rfl), _, k.rd (by rfl), _, _, _, k.rd (by rfl), _, _, _, k.rd (by rfl), _, _, _, k.rd (by rfl), _, _, _, k.rd (by rfl), _, k.rd (by rfl), _, k.rd (by rfl), _, k.rd (by rfl), _, k.rd (by rfl), out 2 k (if_pos hc)⟩
  have hle : ¬ 65528 < bs.length := by
    have : ¬ (l : Int) > 65528 := of_decide_eq_false hc
    omega
  clear hc
  refine k.vnew fun b16 h17 k => k.vnew fun b18 h19 k => k.vst (Nat.le_of_ble_eq_true (by rfl)) fun h20 k => ?_
  have r : RdP none_ h a l c bs := ⟨hsl.ro, hl, hlc, by omega⟩
  have k : St none_ h h20 [A.blk b18 #[.pointer (some ⟨b16, 0, none⟩)] 86, RP 88 b16 a l c false, A.blk b1 (rpV noRp none 0 none 0 none 0 none 0).toArray 34] := k
  have k := k.pull1
  refine ⟨_, k.rd (by rfl), ?_⟩
  obtain ⟨F', G, kF, kG, d, hF, back⟩ := k.frameA
  refine CallsH.mono (truP_step kF (r.at k.ext hF)) ?_
  rintro _ h23 ⟨note, a1, l1, c1, bs1, bad1, rfl, nx1, s1, k2⟩
  have k := back k2
  clear back kF kG d hF
  refine ⟨_, rfl, k.vnew fun b25 h26 k => k.vall (by rfl) (by rfl) fun h27 k => ⟨_, k.rd (by rfl), ?_⟩⟩
  have k := k.sel 4 [1, 2, 0, 3] rfl (by decide) (L' := [_, _, _, _]) (by rfl)
  obtain ⟨F', G, kF, kG, d, hF, back⟩ := k.frameA
  refine CallsH.mono (idP_step kF ((r.nxt nx1).at k.ext hF)) ?_
  rintro _ h30 ⟨id, a2, l2, c2, bs2, bad2, rfl, nx2, s2, _, k2⟩
  have k := back k2
  clear back kF kG d hF
  replace nx2 := nx1.trans nx2
  refine ⟨_, rfl, k.vst (Nat.le_of_ble_eq_true (by rfl)) fun h32 k => ?_⟩
  have k := k.reB (b := b25) (rpV ⟨id, note, 0, 0, [], [], [], [], 0, 0, 0, false⟩ none 0 none 0 none 0 none 0).toArray (by rfl)
  refine ⟨_, k.rd (by rfl), ?_⟩
  obtain ⟨F', G, kF, kG, d, hF, back⟩ := k.frameA
  refine CallsH.mono (numP_step kF ((r.nxt nx2).at k.ext hF)) ?_
  rintro _ h35 ⟨er, a3, l3, c3, bs3, bad3, rfl, nx3, s3, _, _, k2⟩
  have k := back k2
  clear back kF kG d hF
  replace nx3 := nx2.trans nx3
  refine ⟨_, rfl, k.vst (Nat.le_of_ble_eq_true (by rfl)) fun h37 k => ?_⟩
  have k := k.reB (b := b25) (rpV ⟨id, note, er, 0, [], [], [], [], 0, 0, 0, false⟩ none 0 none 0 none 0 none 0).toArray (by rfl)
  refine ⟨_, k.rd (by rfl), ?_⟩
  obtain ⟨F', G, kF, kG, d, hF, back⟩ := k.frameA
  refine CallsH.mono (numP_step kF ((r.nxt nx3).at k.ext hF)) ?_
  rintro _ h40 ⟨at_, a4, l4, c4, bs4, bad4, rfl, nx4, s4, _, _, k2⟩
  have k := back k2
  clear back kF kG d hF
  replace nx4 := nx3.trans nx4
  refine ⟨_, rfl, k.vst (Nat.le_of_ble_eq_true (by rfl)) fun h42 k => ?_⟩
  have k := k.reB (b := b25) (rpV ⟨id, note, er, at_, [], [], [], [], 0, 0, 0, false⟩ none 0 none 0 none 0 none 0).toArray (by rfl)
  refine ⟨_, k.rd (by rfl), ?_⟩
  obtain ⟨F', G, kF, kG, d, hF, back⟩ := k.frameB3
  refine CallsH.mono (errsP_step kF ((r.nxt nx4).at k.ext hF)) ?_
  rintro _ h45 ⟨errs, ga, gc, a5, l5, c5, bs5, bad5, rfl, nx5, s5, _, k2⟩
  have k := back k2
  clear back kF kG d hF
  replace nx5 := nx4.trans nx5
  refine ⟨_, _, _, rfl, k.vst (Nat.le_of_ble_eq_true (by rfl)) fun h47 k => ?_⟩
  have k := k.reB (b := b25) (rpV ⟨id, note, er, at_, errs, [], [], [], 0, 0, 0, false⟩ ga gc none 0 none 0 none 0).toArray (by rfl)
  refine ⟨_, k.rd (by rfl), _, k.rd (by rfl), ?_⟩
  obtain ⟨F', G, kF, kG, d, hF, back⟩ := k.frame2
  refine CallsH.mono (hitsP_step kF ((r.nxt nx5).at k.ext hF)) ?_
  rintro _ h51 ⟨hits, ha, hc, a6, l6, c6, bs6, bad6, rfl, nx6, s6, _, k2⟩
  have k := back k2
  clear back kF kG d hF
  replace nx6 := nx5.trans nx6
  refine ⟨_, _, _, rfl, k.vst (Nat.le_of_ble_eq_true (by rfl)) fun h53 k => ?_⟩
  have k := k.reB (b := b25) (rpV ⟨id, note, er, at_, errs, hits, [], [], 0, 0, 0, false⟩ ga gc ha hc none 0 none 0).toArray (by rfl)
  refine ⟨_, k.rd (by rfl), _, k.rd (by rfl), ?_⟩
  obtain ⟨F', G, kF, kG, d, hF, back⟩ := k.frame2
  refine CallsH.mono (texsP_step kF ((r.nxt nx6).at k.ext hF)) ?_
  rintro _ h57 ⟨names, na, nc, a7, l7, c7, bs7, bad7, rfl, nx7, s7, _, k2⟩
  have k := back k2
  clear back kF kG d hF
  replace nx7 := nx6.trans nx7
  refine ⟨_, _, _, rfl, k.vst (Nat.le_of_ble_eq_true (by rfl)) fun h59 k => ?_⟩
  have k := k.reB (b := b25) (rpV ⟨id, note, er, at_, errs, hits, names, [], 0, 0, 0, false⟩ ga gc ha hc na nc none 0).toArray (by rfl)
  refine ⟨_, k.rd (by rfl), _, k.rd (by rfl), ?_⟩
  obtain ⟨F', G, kF, kG, d, hF, back⟩ := k.frame2
  refine CallsH.mono (rowsP_step kF ((r.nxt nx7).at k.ext hF)) ?_
  rintro _ h63 ⟨rows, ra, rc, a8, l8, c8, bs8, bad8, rfl, nx8, s8, _, k2⟩
  have k := back k2
  clear back kF kG d hF
  replace nx8 := nx7.trans nx8
  refine ⟨_, _, _, rfl, k.vst (Nat.le_of_ble_eq_true (by rfl)) fun h65 k => ?_⟩
  have k := k.reB (b := b25) (rpV ⟨id, note, er, at_, errs, hits, names, rows, 0, 0, 0, false⟩ ga gc ha hc na nc ra rc).toArray (by rfl)
  refine ⟨_, k.rd (by rfl), ?_⟩
  obtain ⟨F', G, kF, kG, d, hF, back⟩ := k.frameA
  refine CallsH.mono (numP_step kF ((r.nxt nx8).at k.ext hF)) ?_
  rintro _ h68 ⟨since, a9, l9, c9, bs9, bad9, rfl, nx9, s9, _, _, k2⟩
  have k := back k2
  clear back kF kG d hF
  replace nx9 := nx8.trans nx9
  refine ⟨_, rfl, k.vst (Nat.le_of_ble_eq_true (by rfl)) fun h70 k => ?_⟩
  have k := k.reB (b := b25) (rpV ⟨id, note, er, at_, errs, hits, names, rows, since, 0, 0, false⟩ ga gc ha hc na nc ra rc).toArray (by rfl)
  refine ⟨_, k.rd (by rfl), ?_⟩
  obtain ⟨F', G, kF, kG, d, hF, back⟩ := k.frameA
  refine CallsH.mono (numP_step kF ((r.nxt nx9).at k.ext hF)) ?_
  rintro _ h73 ⟨open_, a10, l10, c10, bs10, bad10, rfl, nx10, s10, _, _, k2⟩
  have k := back k2
  clear back kF kG d hF
  replace nx10 := nx9.trans nx10
  refine ⟨_, rfl, k.vst (Nat.le_of_ble_eq_true (by rfl)) fun h75 k => ?_⟩
  have k := k.reB (b := b25) (rpV ⟨id, note, er, at_, errs, hits, names, rows, since, open_, 0, false⟩ ga gc ha hc na nc ra rc).toArray (by rfl)
  refine ⟨_, k.rd (by rfl), ?_⟩
  obtain ⟨F', G, kF, kG, d, hF, back⟩ := k.frameA
  refine CallsH.mono (numP_step kF ((r.nxt nx10).at k.ext hF)) ?_
  rintro _ h78 ⟨nodes, a11, l11, c11, bs11, bad11, rfl, nx11, s11, _, _, k2⟩
  have k := back k2
  clear back kF kG d hF
  replace nx11 := nx10.trans nx11
  refine ⟨_, rfl, k.vst (Nat.le_of_ble_eq_true (by rfl)) fun h80 k => ?_⟩
  have k := k.reB (b := b25) (rpV ⟨id, note, er, at_, errs, hits, names, rows, since, open_, nodes, false⟩ ga gc ha hc na nc ra rc).toArray (by rfl)
  refine ⟨_, k.rd (by rfl), ?_⟩
  obtain ⟨F', G, kF, kG, d, hF, back⟩ := k.frameA
  refine CallsH.mono (truP_step kF ((r.nxt nx11).at k.ext hF)) ?_
  rintro _ h83 ⟨over, a12, l12, c12, bs12, bad12, rfl, nx12, s12, k2⟩
  have k := back k2
  clear back kF kG d hF
  replace nx12 := nx11.trans nx12
  refine ⟨_, rfl, k.vst (Nat.le_of_ble_eq_true (by rfl)) fun h85 k => ?_⟩
  have k := k.reB (b := b25) (rpV ⟨id, note, er, at_, errs, hits, names, rows, since, open_, nodes, over⟩ ga gc ha hc na nc ra rc).toArray (by rfl)
  refine ⟨_, k.rd (by rfl), ?_⟩
  refine VSome.mk ⟨_, k.rd (by rfl), ?_⟩
  have sA : StepO toldO bs false ⟨id, note, er, at_, errs, hits, names, rows, since, open_, nodes, over⟩ bs12 bad12 := s1.bind (s2.bind (s3.bind (s4.bind (s5.bind (s6.bind (s7.bind (s8.bind (s9.bind (s10.bind (s11.bind (s12.bind (.ret _))))))))))))
  obtain ⟨f1, f2⟩ := told_fin hle sA
  have hl3 := nx12.len hl
  cases hb3 : bad12
  rotate_left
  · exact cond_true rfl (k.vall (by rfl) (by rfl) fun _ k => ⟨_, k.rd (by rfl), _, k.rd (by rfl), _, k.rd (by rfl), _, k.rd (by rfl), _, _, _, k.rd (by rfl), _, _, _, k.rd (by rfl), _, _, _, k.rd (by rfl), _, _, _, k.rd (by rfl), _, k.rd (by rfl), _, k.rd (by rfl), _, k.rd (by rfl), _, k.rd (by rfl), out 301 k (f1 (.inl hb3))⟩)
  refine cond_false rfl ⟨_, k.rd (by rfl), ?_⟩
  refine VSome.mk ⟨_, _, _, k.rd (by rfl), cond_split (fun hc => ?_) (fun hc => ?_)⟩
  · have hc : (l12 : Int) > 0 := of_decide_eq_true hc
    have hne : bs12 ≠ [] := fun e => by rw [e] at hl3; simp at hl3; omega
    exact k.vall (by rfl) (by rfl) fun _ k => ⟨_, k.rd (by rfl), _, k.rd (by rfl), _, k.rd (by rfl), _, k.rd (by rfl), _, _, _, k.rd (by rfl), _, _, _, k.rd (by rfl), _, _, _, k.rd (by rfl), _, _, _, k.rd (by rfl), _, k.rd (by rfl), _, k.rd (by rfl), _, k.rd (by rfl), _, k.rd (by rfl), out 301 k (f1 (.inr hne))⟩
  · have hc0 : ¬ (l12 : Int) > 0 := of_decide_eq_false hc
    have he : bs12 = [] := List.eq_nil_of_length_eq_zero (by omega)
    rw [f2 hb3 he]
    refine ⟨_, k.rd (by rfl), _, k.rd (by rfl), _, k.rd (by rfl), _, k.rd (by rfl), _, _, _, k.rd (by rfl), _, _, _, k.rd (by rfl), _, _, _, k.rd (by rfl), _, _, _, k.rd (by rfl), _, k.rd (by rfl), _, k.rd (by rfl), _, k.rd (by rfl), _, k.rd (by rfl), ?_⟩
    refine k.vall (by rfl) (by rfl) fun h130 k => ⟨_, k.rd (by rfl), _, k.rd (by rfl), _, k.rd (by rfl), _, k.rd (by rfl), _, _, _, k.rd (by rfl), _, _, _, k.rd (by rfl), _, _, _, k.rd (by rfl), _, _, _, k.rd (by rfl), _, k.rd (by rfl), _, k.rd (by rfl), _, k.rd (by rfl), _, k.rd (by rfl), ga, gc, ha, _, na, nc, ra, rc, rfl, ?_⟩
    exact St.only4 (k.sel 8 [5, 3, 2, 1, 0, 4, 6, 7] rfl (by decide) (L' := [_, _, _, _, _, _, _, _]) (by rfl))
end Go.Proofs.YtgdgebmlcgohhaaDoor.F
