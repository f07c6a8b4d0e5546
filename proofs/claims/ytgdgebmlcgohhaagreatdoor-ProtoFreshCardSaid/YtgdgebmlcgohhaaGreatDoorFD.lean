/- The lists of all that was read: in memory; they are whole. Conditions: none. -/
import Derived.Test.YtgdgebmlcgohhaaGreatDoorFC
namespace Go.Proofs.YtgdgebmlcgohhaaGreatDoor.F
open Go Go.VC Go.Proofs
set_option linter.unusedSimpArgs false
set_option linter.unusedVariables false
set_option maxRecDepth 100000
attribute [local irreducible] CallsH RunsTo PureTo

variable {S F G : Nat → Prop} {h0 h h1 : Heap} {L R L' : List A} {a b0 la wa : Option Addr} {l c l2 c2 p b cl cw q g : Nat} {bs cs : List UInt8} {n : Int}
/-- A list of rows of one value each. -/
structure Rb where
  t : Nat
  a : Option Addr
  c : Nat
  bs : List Nat
def rcell (b : Nat) : List Value := [.slice (some ⟨b, 0, none⟩) 1 1]
def rbA (y : Rb) : A := A.vec 112 1 y.a y.bs.length y.c (y.bs.flatMap rcell)
def nbA (x : Nat × Nat) : A := A.blk x.2 (valV (mkN x.1)).toArray 127
def Rb.bf (y : Rb) : Bf Nat := ⟨y.t, y.a, y.bs.length, y.c⟩
structure Lk where
  x0 : Cm
  x1 : Cm
  x2 : Cm
  x3 : Cm
  x4 : Cm
  x5 : Cm
  ys : List Rb
  ns : List (Nat × Nat)
  n : Int
abbrev lkC (m : Lk) : Array Value := #[hdV m.x0, hdV m.x1, hdV m.x2, hdV m.x3, hdV m.x4, hdV m.x5, .int .i64 m.n]
abbrev ListsL (p : Nat) (m : Lk) : List A := [A.blk p (lkC m) 52, hdA 112 m.x0, hdA 54 m.x1, hdA 60 m.x2, hdA 55 m.x3, hdA 61 m.x4, hdA 45 m.x5, BfK KN0 m.x0.bufs, BfK KN1 m.x1.bufs, BfK KN2 m.x2.bufs, BfK KN3 m.x3.bufs, BfK KN4 m.x4.bufs, A.all (m.ys.map rbA), A.all (m.ns.map nbA)]
structure LkOk (m : Lk) : Prop where
  x0 : CgOk 2 m.x0
  x1 : CgOk 2 m.x1
  x2 : CgOk 2 m.x2
  x3 : CgOk 2 m.x3
  x4 : CgOk 2 m.x4
  x5 : CgOk 2 m.x5
  bf : m.x5.bufs = m.ys.map Rb.bf
  rb : ∀ y ∈ m.ys, ∀ b ∈ y.bs, (y.t, b) ∈ m.ns
  l3 : m.x3.es.length = m.x2.es.length
  l4 : m.x4.es.length = m.x2.es.length
  l5 : m.x5.es.length = m.x2.es.length
/-- How long the columns may be. -/
structure LkL (m : Lk) (q : Nat) : Prop where
  x0 : m.x0.es.length ≤ q
  x1 : m.x1.es.length ≤ q
  x2 : m.x2.es.length ≤ q
/-- The lists, as they may be read. -/
structure LkR (h : Heap) (p : Nat) (m : Lk) : Prop where
  c0 : cellH h ⟨p, 0, none⟩ = some (hdV m.x0)
  c1 : cellH h ⟨p, 1, none⟩ = some (hdV m.x1)
  c2 : cellH h ⟨p, 2, none⟩ = some (hdV m.x2)
  c3 : cellH h ⟨p, 3, none⟩ = some (hdV m.x3)
  c4 : cellH h ⟨p, 4, none⟩ = some (hdV m.x4)
  c5 : cellH h ⟨p, 5, none⟩ = some (hdV m.x5)
  x0 : ColR KN0 2 h m.x0
  x1 : ColR KN1 2 h m.x1
  x2 : ColR KN2 2 h m.x2
  x3 : ColR KN3 2 h m.x3
  x4 : ColR KN4 2 h m.x4
  hd5 : Sl h m.x5.a (m.x5.es.map trV)
  es5 : ∀ (i : Nat) e, m.x5.es[i]? = some e → (∃ bs : List Nat, bs.length = e.2.1 ∧ Sl h e.1 (bs.flatMap rcell) ∧ ∀ b ∈ bs, Sl h (some ⟨b, 0, none⟩) (valV (mkN (i / 2)))) ∧ e.2.1 < 9223372036854775808
  l3 : m.x3.es.length = m.x2.es.length
  l4 : m.x4.es.length = m.x2.es.length
  l5 : m.x5.es.length = m.x2.es.length
theorem LkR.ext {m : Lk} (k : LkR h p m) (e : Ext h h1) : LkR h1 p m :=
  ⟨cellH_mod k.c0 e id, cellH_mod k.c1 e id, cellH_mod k.c2 e id, cellH_mod k.c3 e id, cellH_mod k.c4 e id, cellH_mod k.c5 e id, k.x0.ext e, k.x1.ext e, k.x2.ext e, k.x3.ext e, k.x4.ext e, k.hd5.ext e, fun i x hx => by
    obtain ⟨⟨bs, q1, q2, q3⟩, q4⟩ := k.es5 i x hx
    exact ⟨⟨bs, q1, q2.ext e, fun b hb => (q3 b hb).ext e⟩, q4⟩, k.l3, k.l4, k.l5⟩
theorem flat_rcell (bs : List Nat) : (bs.flatMap rcell).length = bs.length := (flatMap_len (f := rcell) (sz := 1) (fun _ => rfl) bs).trans (Nat.mul_one _)
theorem take_rcell : ∀ (l : Nat) (bs : List Nat), (bs.flatMap rcell).take l = (bs.take l).flatMap rcell
  | 0, _ => rfl
  | l + 1, [] => rfl
  | l + 1, b :: bs => by
    rw [List.flatMap_cons, List.take_succ_cons, List.flatMap_cons, ← take_rcell l bs]; rfl
theorem rows_sl {ys : List Rb} {ns : List (Nat × Nat)} {t : Nat} (k : St S h0 h (A.all (ys.map rbA) :: A.all (ns.map nbA) :: R)) (rb : ∀ y ∈ ys, ∀ b ∈ y.bs, (y.t, b) ∈ ns) (on : On (ys.map Rb.bf) t a l c) :
    ∃ bs : List Nat, bs.length = l ∧ Sl h a (bs.flatMap rcell) ∧ (∀ b ∈ bs, Sl h (some ⟨b, 0, none⟩) (valV (mkN t))) ∧ l < 9223372036854775808 := by
  obtain ⟨x, hx, rfl, rfl, rfl, hl⟩ := on
  obtain ⟨y, hy, rfl⟩ := List.mem_map.1 hx
  obtain ⟨s1, s2, e⟩ := List.append_of_mem hy
  have k1 := (St.allPerm k (L' := (y :: (s1 ++ s2)).map rbA) (by rw [e]; exact List.perm_middle.map _)).allOut
  have k1 : St S h0 h (A.vec 112 1 y.a y.bs.length y.c (y.bs.flatMap rcell) :: A.all ((s1 ++ s2).map rbA) :: A.all (ns.map nbA) :: R) := k1
  obtain ⟨v1, _, v3⟩ := St.vec (a := y.a) k1
  have hle := v1.le
  have hl : l ≤ y.bs.length := hl
  refine ⟨y.bs.take l, by rw [List.length_take]; omega, ?_, fun b hb => ?_, by omega⟩
  · have r := (k1.sl (a := y.a)).ro.take l
    rw [take_rcell] at r
    exact r.sl
  · have hm := rb y hy b (List.mem_of_mem_take hb)
    obtain ⟨n1, n2, e3⟩ := List.append_of_mem hm
    have k2 := (St.allPerm k1.drop.drop (L' := ((y.t, b) :: (n1 ++ n2)).map nbA) (by rw [e3]; exact List.perm_middle.map _)).allOut
    have k2 : St S h0 h (A.blk b (valV (mkN y.t)).toArray 127 :: A.all ((n1 ++ n2).map nbA) :: R) := k2
    exact k2.slB (b := b)
theorem LkOk.r {m : Lk} {q : Nat} (ok : LkOk m) (k : St S h0 h (ListsL p m ++ R)) (l : LkL m q) (hq : q < 1152921504606846976) : LkR h p m := by
  have k : St S h0 h (A.blk p (lkC m) 52 :: hdA 112 m.x0 :: hdA 54 m.x1 :: hdA 60 m.x2 :: hdA 55 m.x3 :: hdA 61 m.x4 :: hdA 45 m.x5 :: BfK KN0 m.x0.bufs :: BfK KN1 m.x1.bufs :: BfK KN2 m.x2.bufs :: BfK KN3 m.x3.bufs :: BfK KN4 m.x4.bufs :: A.all (m.ys.map rbA) :: A.all (m.ns.map nbA) :: R) := k
  have l0 := l.x0
  have l1 := l.x1
  have l2 := l.x2
  have l3 := ok.l3
  have l4 := ok.l4
  have l5 := ok.l5
  have k1 := k.drop
  have k2 := k1.drop
  have k3 := k2.drop
  have k4 := k3.drop
  have k5 := k4.drop
  have k6 := k5.drop
  have k7 := k6.drop
  have k8 := k7.drop
  have k9 := k8.drop
  have k10 := k9.drop
  have k11 := k10.drop
  have k12 := k11.drop
  refine ⟨k.rd (by rfl), k.rd (by rfl), k.rd (by rfl), k.rd (by rfl), k.rd (by rfl), k.rd (by rfl), ok.x0.r k1 k7 (by omega), ok.x1.r k2 k8 (by omega), ok.x2.r k3 k9 (by omega), ok.x3.r k4 k10 (by omega), ok.x4.r k5 k11 (by omega), k6.sl (a := m.x5.a), fun i e he => ?_, l3, l4, l5⟩
  rcases ok.x5.es i e he with ⟨_, rfl⟩ | o
  · exact ⟨⟨[], rfl, Sl.nil _ _, fun b hb => by cases hb⟩, by show 0 < _; omega⟩
  · rw [ok.bf] at o
    obtain ⟨bs, q1, q2, q3, q4⟩ := rows_sl k12 ok.rb o
    exact ⟨⟨bs, q1, q2, q3⟩, q4⟩
set_option maxHeartbeats 4000000 in
theorem lwhole_spec {m : Lk} (k : LkR h p m) : CallsH Tryz.prog 23 #[.pointer (some ⟨p, 0, none⟩)] h (fun v h' => v = .bool true ∧ Ext h h') := by
  refine vf23 _ h _ ?_
  unfold F23
  have lx0 := k.x0.len
  have lx1 := k.x1.len
  have lx2 := k.x2.len
  have l3 := k.l3
  have l4 := k.l4
  have l5 := k.l5
  refine ⟨fun n hh _ i => ∃ j : Nat, i = j ∧ j ≤ m.x0.es.length ∧ n = m.x0.es.length - j ∧ Ext h hh, ⟨_, 0, rfl, Nat.zero_le _, rfl, .refl _ _⟩, ?_⟩
  rintro n h3 _ _ i ⟨j, rfl, hj, rfl, m3⟩
  refine VSome.mk ⟨_, _, _, (k.ext m3).c0, cond_split (fun hc => ?_) (fun _ => ?_)⟩
  · have hjl : j < m.x0.es.length := Int.ofNat_lt.1 (of_decide_eq_true hc)
    obtain ⟨e, he⟩ : ∃ e, m.x0.es[j]? = some e := ⟨_, List.getElem?_eq_getElem hjl⟩
    have hel := (k.x0.es j e he).2
    refine ⟨fun n h' _ r => ∃ t : Nat, r = t ∧ t ≤ e.2.1 ∧ n = e.2.1 - t ∧ Ext h h', ⟨_, 0, rfl, Nat.zero_le _, rfl, m3⟩, ?_⟩
    rintro n h12 _ _ kk ⟨r, rfl, hr, rfl, m12⟩
    have k12 := k.ext m12
    refine VSome.mk ⟨_, _, _, k12.c0, tr_one k12.x0.hd rfl he fun ad hc1 => ⟨_, _, _, hc1, cond_split (fun hc => ?_) (fun _ => ?_)⟩⟩
    · have hrl : r < e.2.1 := Int.ofNat_lt.1 (of_decide_eq_true hc)
      refine VSome.mk ⟨_, _, _, k12.c0, tr_one k12.x0.hd rfl he fun ad2 hc2 => ⟨_, _, _, hc2, ?_⟩⟩
      refine (k12.x0.es j e he).1.row (f := KN0.f (j / 2)) (sz := 4) (xs := List.range e.2.1) (KN0.hf _) (by omega) List.length_range (by omega) (by omega) fun ad3 x hx hc3 => ?_
      have d0 : cellH h12 ad3 = some (.int .i64 (mkN (j / 2)).k) := hc3 0 _ rfl
      have d1 : cellH h12 ⟨ad3.block, ad3.off + 1, none⟩ = some (.int .i64 (mkN (j / 2)).n) := hc3 1 _ rfl
      have d2 : cellH h12 ⟨ad3.block, ad3.off + 2, none⟩ = some (.string (bA (mkN (j / 2)).s)) := hc3 2 _ rfl
      have d3 : cellH h12 ⟨ad3.block, ad3.off + 3, none⟩ = some (.bool (mkN (j / 2)).b) := hc3 3 _ rfl
      refine ⟨_, d0, _, d1, _, d2, _, d3, ?_⟩
      refine CallsH.mono (num_spec j (by omega)) ?_
      rintro _ _ ⟨rfl, rfl⟩
      refine ⟨_, rfl, ⟨d0, d1, d2, d3⟩, hc2, k12.c0, ?_⟩
      refine val_neq (x := mkN (j / 2)) (y := mkN (j / 2)) ⟨_, rfl, cond_false (by simp) ⟨e.2.1 - (r + 1), by omega, r + 1, wrap_nat hrl (by omega), hrl, rfl, m12⟩⟩
    · exact ⟨m.x0.es.length - (j + 1), by omega, j + 1, wrap_nat hjl (by omega), hjl, rfl, m12⟩
  clear hj
  refine ⟨fun n hh _ i => ∃ j : Nat, i = j ∧ j ≤ m.x1.es.length ∧ n = m.x1.es.length - j ∧ Ext h hh, ⟨_, 0, rfl, Nat.zero_le _, rfl, m3⟩, ?_⟩
  clear m3
  rintro n h3 _ _ i ⟨j, rfl, hj, rfl, m3⟩
  refine VSome.mk ⟨_, _, _, (k.ext m3).c1, cond_split (fun hc => ?_) (fun _ => ?_)⟩
  · have hjl : j < m.x1.es.length := Int.ofNat_lt.1 (of_decide_eq_true hc)
    obtain ⟨e, he⟩ : ∃ e, m.x1.es[j]? = some e := ⟨_, List.getElem?_eq_getElem hjl⟩
    have hel := (k.x1.es j e he).2
    refine ⟨fun n h' _ r => ∃ t : Nat, r = t ∧ t ≤ e.2.1 ∧ n = e.2.1 - t ∧ Ext h h', ⟨_, 0, rfl, Nat.zero_le _, rfl, m3⟩, ?_⟩
    rintro n h12 _ _ kk ⟨r, rfl, hr, rfl, m12⟩
    have k12 := k.ext m12
    refine VSome.mk ⟨_, _, _, k12.c1, tr_one k12.x1.hd rfl he fun ad hc1 => ⟨_, _, _, hc1, cond_split (fun hc => ?_) (fun _ => ?_)⟩⟩
    · have hrl : r < e.2.1 := Int.ofNat_lt.1 (of_decide_eq_true hc)
      refine VSome.mk ⟨_, _, _, k12.c1, tr_one k12.x1.hd rfl he fun ad2 hc2 => ⟨_, _, _, hc2, ?_⟩⟩
      refine (k12.x1.es j e he).1.row (f := KN1.f (j / 2)) (sz := 1) (xs := List.range e.2.1) (KN1.hf _) (by omega) List.length_range (by omega) (by omega) fun ad3 x hx hc3 => ?_
      have d0 : cellH h12 ad3 = some (strV (nameB (j / 2))) := hc3 0 _ rfl
      refine ⟨_, d0, ?_⟩
      refine CallsH.mono (name_spec61 j (by omega)) ?_
      rintro _ h62 ⟨rfl, m62⟩
      refine ⟨_, rfl, cellH_mod d0 m62 id, cellH_mod hc2 m62 id, (k12.ext m62).c1, cond_false (by rw [show strEq (bA (nameB (j / 2))) (bA (nameB (j / 2))) = true from (eqStr _ _).trans (by simp)]; rfl) ⟨e.2.1 - (r + 1), by omega, r + 1, wrap_nat hrl (by omega), hrl, rfl, m12.then m62⟩⟩
    · exact ⟨m.x1.es.length - (j + 1), by omega, j + 1, wrap_nat hjl (by omega), hjl, rfl, m12⟩
  clear hj
  refine ⟨fun n hh _ i => ∃ j : Nat, i = j ∧ j ≤ m.x2.es.length ∧ n = m.x2.es.length - j ∧ Ext h hh, ⟨_, 0, rfl, Nat.zero_le _, rfl, m3⟩, ?_⟩
  clear m3
  rintro n h3 _ _ i ⟨j, rfl, hj, rfl, m3⟩
  refine VSome.mk ⟨_, _, _, (k.ext m3).c2, cond_split (fun hc => ?_) (fun _ => ⟨rfl, m3⟩)⟩
  have hjl : j < m.x2.es.length := Int.ofNat_lt.1 (of_decide_eq_true hc)
  obtain ⟨e, he⟩ : ∃ e, m.x2.es[j]? = some e := ⟨_, List.getElem?_eq_getElem hjl⟩
  have hel := (k.x2.es j e he).2
  refine ⟨fun n h' _ r => ∃ t : Nat, r = t ∧ t ≤ e.2.1 ∧ n = e.2.1 - t ∧ Ext h h', ⟨_, 0, rfl, Nat.zero_le _, rfl, m3⟩, ?_⟩
  rintro n h12 _ _ kk ⟨r, rfl, hr, rfl, m12⟩
  have k12 := k.ext m12
  refine VSome.mk ⟨_, _, _, k12.c2, tr_one k12.x2.hd rfl he fun ad hc1 => ⟨_, _, _, hc1, cond_split (fun hc => ?_) (fun _ => ?_)⟩⟩
  · have hrl : r < e.2.1 := Int.ofNat_lt.1 (of_decide_eq_true hc)
    refine VSome.mk ⟨_, _, _, k12.c2, tr_one k12.x2.hd rfl he fun ad2 hc2 => ⟨_, _, _, hc2, ?_⟩⟩
    refine (k12.x2.es j e he).1.row (f := KN2.f (j / 2)) (sz := 1) (xs := List.range e.2.1) (KN2.hf _) (by omega) List.length_range (by omega) (by omega) fun ad3 x hx hc3 => ?_
    have d0 : cellH h12 ad3 = some (.int .i64 ((1000 + j / 2 : Nat) : Int)) := hc3 0 _ rfl
    refine ⟨_, d0, ?_⟩
    refine CallsH.mono (num_spec j (by omega)) ?_
    rintro _ _ ⟨rfl, rfl⟩
    exact ⟨_, rfl, d0, hc2, k12.c2, cond_false (by simp) ⟨e.2.1 - (r + 1), by omega, r + 1, wrap_nat hrl (by omega), hrl, rfl, m12⟩⟩
  clear hr k12
  obtain ⟨e3, he3⟩ : ∃ e, m.x3.es[j]? = some e := ⟨_, List.getElem?_eq_getElem (by omega)⟩
  have hel3 := (k.x3.es j e3 he3).2
  refine ⟨fun n h' _ r => ∃ t : Nat, r = t ∧ t ≤ e3.2.1 ∧ n = e3.2.1 - t ∧ Ext h h', ⟨_, 0, rfl, Nat.zero_le _, rfl, m12⟩, ?_⟩
  clear m12
  rintro n h12 _ _ kk ⟨r, rfl, hr, rfl, m12⟩
  have k12 := k.ext m12
  refine VSome.mk ⟨_, _, _, k12.c3, tr_one k12.x3.hd rfl he3 fun ad hc1 => ⟨_, _, _, hc1, cond_split (fun hc => ?_) (fun _ => ?_)⟩⟩
  · have hrl : r < e3.2.1 := Int.ofNat_lt.1 (of_decide_eq_true hc)
    refine VSome.mk ⟨_, _, _, k12.c3, tr_one k12.x3.hd rfl he3 fun ad2 hc2 => ⟨_, _, _, hc2, ?_⟩⟩
    refine (k12.x3.es j e3 he3).1.row (f := KN3.f (j / 2)) (sz := 3) (xs := List.range e3.2.1) (KN3.hf _) (by omega) List.length_range (by omega) (by omega) fun ad3 x hx hc3 => ?_
    have d0 : cellH h12 ad3 = some (strV (nameB (j / 2))) := hc3 0 _ rfl
    refine ⟨_, d0, ?_⟩
    refine CallsH.mono (name_spec61 j (by omega)) ?_
    rintro _ h62 ⟨rfl, m62⟩
    have m63 := m12.then m62
    have k62 := k.ext m63
    refine ⟨_, rfl, cellH_mod d0 m62 id, cellH_mod hc2 m62 id, k62.c3, cond_false (by rw [show strEq (bA (nameB (j / 2))) (bA (nameB (j / 2))) = true from (eqStr _ _).trans (by simp)]; rfl) (VSome.mk ⟨_, _, _, k62.c3, tr_one k62.x3.hd rfl he3 fun ad4 hc4 => ⟨_, _, _, hc4, ?_⟩⟩)⟩
    refine (k62.x3.es j e3 he3).1.row (f := KN3.f (j / 2)) (sz := 3) (xs := List.range e3.2.1) (KN3.hf _) (by omega) List.length_range (by omega) (by omega) fun ad5 x5 hx5 hc5 => ?_
    exact ⟨_, _, _, hc5 2 _ rfl, cond_false rfl ⟨e3.2.1 - (r + 1), by omega, r + 1, wrap_nat hrl (by omega), hrl, rfl, m63⟩⟩
  clear hr k12
  obtain ⟨e4, he4⟩ : ∃ e, m.x4.es[j]? = some e := ⟨_, List.getElem?_eq_getElem (by omega)⟩
  have hel4 := (k.x4.es j e4 he4).2
  refine ⟨fun n h' _ r => ∃ t : Nat, r = t ∧ t ≤ e4.2.1 ∧ n = e4.2.1 - t ∧ Ext h h', ⟨_, 0, rfl, Nat.zero_le _, rfl, m12⟩, ?_⟩
  clear m12
  rintro n h12 _ _ kk ⟨r, rfl, hr, rfl, m12⟩
  have k12 := k.ext m12
  refine VSome.mk ⟨_, _, _, k12.c4, tr_one k12.x4.hd rfl he4 fun ad hc1 => ⟨_, _, _, hc1, cond_split (fun hc => ?_) (fun _ => ?_)⟩⟩
  · have hrl : r < e4.2.1 := Int.ofNat_lt.1 (of_decide_eq_true hc)
    refine VSome.mk ⟨_, _, _, k12.c4, tr_one k12.x4.hd rfl he4 fun ad2 hc2 => ⟨_, _, _, hc2, ?_⟩⟩
    refine (k12.x4.es j e4 he4).1.row (f := KN4.f (j / 2)) (sz := 2) (xs := List.range e4.2.1) (KN4.hf _) (by omega) List.length_range (by omega) (by omega) fun ad3 x hx hc3 => ?_
    have d0 : cellH h12 ad3 = some (strV (nameB (j / 2))) := hc3 0 _ rfl
    refine ⟨_, d0, ?_⟩
    refine CallsH.mono (name_spec61 j (by omega)) ?_
    rintro _ h62 ⟨rfl, m62⟩
    have m63 := m12.then m62
    have k62 := k.ext m63
    refine ⟨_, rfl, cellH_mod d0 m62 id, cellH_mod hc2 m62 id, k62.c4, cond_false (by rw [show strEq (bA (nameB (j / 2))) (bA (nameB (j / 2))) = true from (eqStr _ _).trans (by simp)]; rfl) (VSome.mk ⟨_, _, _, k62.c4, tr_one k62.x4.hd rfl he4 fun ad4 hc4 => ⟨_, _, _, hc4, ?_⟩⟩)⟩
    refine (k62.x4.es j e4 he4).1.row (f := KN4.f (j / 2)) (sz := 2) (xs := List.range e4.2.1) (KN4.hf _) (by omega) List.length_range (by omega) (by omega) fun ad5 x5 hx5 hc5 => ?_
    exact ⟨_, _, _, hc5 1 _ rfl, cond_false rfl ⟨e4.2.1 - (r + 1), by omega, r + 1, wrap_nat hrl (by omega), hrl, rfl, m63⟩⟩
  clear hr k12
  obtain ⟨e5, he5⟩ : ∃ e, m.x5.es[j]? = some e := ⟨_, List.getElem?_eq_getElem (by omega)⟩
  obtain ⟨⟨rows, q1, q2, q3⟩, hel5⟩ := k.es5 j e5 he5
  refine ⟨fun n h' _ r => ∃ t : Nat, r = t ∧ t ≤ e5.2.1 ∧ n = e5.2.1 - t ∧ Ext h h', ⟨_, 0, rfl, Nat.zero_le _, rfl, m12⟩, ?_⟩
  clear m12
  rintro n h12 _ _ kk ⟨r, rfl, hr, rfl, m12⟩
  have k12 := k.ext m12
  refine VSome.mk ⟨_, _, _, k12.c5, tr_one k12.hd5 rfl he5 fun ad hc1 => ⟨_, _, _, hc1, cond_split (fun hc => ?_) (fun _ => ?_)⟩⟩
  · have hrl : r < e5.2.1 := Int.ofNat_lt.1 (of_decide_eq_true hc)
    refine VSome.mk ⟨_, _, _, k12.c5, tr_one k12.hd5 rfl he5 fun ad2 hc2 => ⟨_, _, _, hc2, ?_⟩⟩
    refine (q2.ext m12).row (f := rcell) (sz := 1) (fun _ => rfl) (by omega) q1 (by omega) (by omega) fun ad3 b hb hc3 => ⟨_, _, _, hc3 0 _ rfl, cond_false rfl (VSome.mk ⟨_, _, _, k12.c5, tr_one k12.hd5 rfl he5 fun ad4 hc4 => ⟨_, _, _, hc4, ?_⟩⟩)⟩
    refine (q2.ext m12).row (f := rcell) (sz := 1) (fun _ => rfl) (by omega) q1 (by omega) (by omega) fun ad5 b5 hb5 hc5 => ⟨_, _, _, hc5 0 _ rfl, ?_⟩
    have hv : Sl h12 (some ⟨b5, 0, none⟩) ([mkN (j / 2)].flatMap valV) := (q3 b5 (List.mem_of_getElem? hb5)).ext m12
    refine hv.row (f := valV) (sz := 4) (fun _ => rfl) (by omega) rfl (show (0 : Int) ≤ 0 by omega) (show (0 : Int) < ((1 : Nat) : Int) by omega) fun ad6 x6 hx6 hc6 => ?_
    cases hx6
    have d0 := hc6 0 _ rfl
    have d1 := hc6 1 _ rfl
    have d2 := hc6 2 _ rfl
    have d3 := hc6 3 _ rfl
    refine ⟨_, d0, _, d1, _, d2, _, d3, ?_⟩
    refine CallsH.mono (num_spec j (by omega)) ?_
    rintro _ _ ⟨rfl, rfl⟩
    refine ⟨_, rfl, ⟨d0, d1, d2, d3⟩, hc5 0 _ rfl, hc4, k12.c5, ?_⟩
    exact val_neq (x := mkN (j / 2)) (y := mkN (j / 2)) ⟨_, rfl, cond_false (by simp) ⟨e5.2.1 - (r + 1), by omega, r + 1, wrap_nat hrl (by omega), hrl, rfl, m12⟩⟩
  · exact ⟨m.x2.es.length - (j + 1), by omega, j + 1, wrap_nat hjl (by omega), hjl, rfl, m12⟩
end Go.Proofs.YtgdgebmlcgohhaaGreatDoor.F
