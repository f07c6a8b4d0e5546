/- Function 9: what is read twice is kept, with what it was. Conditions: none. -/
import Derived.Test.YtgdgebmlcgohhaaGreatDoorFK
namespace Go.Proofs.YtgdgebmlcgohhaaGreatDoor.F
open Go Go.VC Go.Proofs
set_option linter.unusedSimpArgs false
set_option linter.unusedVariables false
set_option maxRecDepth 100000
attribute [local irreducible] CallsH RunsTo PureTo

variable {S F G : Nat → Prop} {h0 h h1 : Heap} {L R L' : List A} {a b0 la wa : Option Addr} {l c l2 c2 p b cl cw g t e sz bt : Nat} {n : Int} {vs news : List Value} {z : Value} {q : Rq} {u : Rp} {v : Val} {bs : Bytes}
variable {ka ww qa qw ua uw : Option Addr} {lk ck lq cq dq cu du : Nat} {kss : List (List Bytes)} {qs : List Rq} {us : List Rp}
theorem T84 : SlTy Tryz.prog 84 24 1 24 (.slice none 0 0) := ⟨by kernel_rfl, by kernel_rfl, rfl, by omega, by omega⟩
theorem T22 : SlTy Tryz.prog 22 57 6 96 (.agg #[.int .u32 0, .int .i64 0, .string (ByteArray.mk #[]), .string (ByteArray.mk #[]), .slice none 0 0, .slice none 0 0]) := ⟨by kernel_rfl, by kernel_rfl, rfl, by omega, by omega⟩
theorem T23p : SlTy Tryz.prog 23 65 12 152 (.agg #[.int .u32 0, .bool false, .int .i64 0, .int .i64 0, .slice none 0 0, .slice none 0 0, .slice none 0 0, .slice none 0 0, .int .i64 0, .int .i64 0, .int .i64 0, .bool false]) := ⟨by kernel_rfl, by kernel_rfl, rfl, by omega, by omega⟩
theorem field77 {v0 v1 v2 v3 v4 v5 v6 v7 v8 : Value} {K : Value → Prop} (q : K (.agg #[v0, v1, v2, v3, v4, v5])) : PureTo Tryz.prog (Instr.field 77 (.agg #[v0, v1, v2, v3, v4, v5, v6, v7, v8]) 0) K :=
  .ok (fun w => by show (Instr.field 77 (.agg #[v0, v1, v2, v3, v4, v5, v6, v7, v8]) 0).run Tryz.prog w = .ok (.agg #[v0, v1, v2, v3, v4, v5]) w; kernel_rfl) q
/-- A list that has grown is closed again. -/
theorem El.grown {α : Type} {E : El α} {xs : List α} {ss new : List E.σ} (he : ss.map E.val = xs) (k : St S h0 h (A.vec E.e E.sz a l c (ss.flatMap E.cells ++ new.flatMap E.cells) :: A.all (ss.map E.own) :: A.all (new.map E.own) :: R)) : St S h0 h (E.L a l c (xs ++ new.map E.val) :: R) := by
  refine El.close (ss := ss ++ new) (by rw [List.map_append, he]) ?_
  rw [List.flatMap_append, List.map_append]
  exact (St.allJoin k.pull2.pull2).pull1
/-- One payload is kept, and what it was. -/
theorem keepOne {x : Option Addr} {cx lk2 : Nat} (k : St none_ h0 h (BV x bs.length cx bs :: kpE.L ka lk ck kss :: kpE.L ww lk2 cw kss :: R)) (hlk : lk ≤ 1099511627776) (hb : bs.length ≤ 1099511627776) {Q : Option Addr → Nat → Nat → Option Addr → Nat → Nat → Heap → Prop}
    (q : ∀ a1 c1 a2 c2 h', St none_ h0 h' (kpE.L a1 (lk + 1) c1 (kss ++ [[bs]]) :: kpE.L a2 (lk + 1) c2 (kss ++ [[bs]]) :: R) → Q a1 (lk + 1) c1 a2 (lk + 1) c2 h') :
    VNew h (.cells #[.slice x bs.length cx] 36) fun b219 h220 =>
    VNew h220 (.cells #[.slice (some ⟨b219, 0, none⟩) 1 1] 24) fun b221 h222 =>
    RunsTo Tryz.prog (Builtin.append_ #[84, 84] 84 #[.slice ka lk ck, .slice (some ⟨b221, 0, none⟩) 1 1]) h222 fun v223 h224 =>
    ∃ (a225 : Option Addr) (la225 ca225 : Nat), v223 = .slice a225 la225 ca225 ∧
    VNew h224 (.cells #[.slice x bs.length cx] 36) fun b226 h227 =>
    CallsH Tryz.prog 37 #[.slice (some ⟨b226, 0, none⟩) 1 1] h227 fun v228 h229 =>
    ∃ (a230 : Option Addr) (la230 ca230 : Nat), v228 = .slice a230 la230 ca230 ∧
    VNew h229 (.cells #[.slice a230 la230 ca230] 24) fun b231 h232 =>
    RunsTo Tryz.prog (Builtin.append_ #[84, 84] 84 #[.slice ww lk2 cw, .slice (some ⟨b231, 0, none⟩) 1 1]) h232 fun v233 h234 =>
    ∃ (a235 : Option Addr) (la235 ca235 : Nat), v233 = .slice a235 la235 ca235 ∧ Q a225 la225 ca225 a235 la235 ca235 h234 := by
  have e1 := (El.length k.pull1).1
  have e2 := (El.length k.pull2).1
  have e3 : lk2 = lk := by omega
  subst e3
  clear e1 e2
  refine k.vnew fun b219 h220 k => k.vnew fun b221 h222 k => ?_
  obtain ⟨ss, hss, k⟩ := El.open (E := kpE) k.pull3
  have k : St none_ h0 h222 (A.blk b221 [Value.slice (some ⟨b219, 0, none⟩) 1 1].toArray 24 :: A.vec 24 1 ka lk2 ck (ss.flatMap kpE.cells) :: A.all (ss.map kpE.own) :: A.blk b219 #[.slice x bs.length cx] 36 :: BV x bs.length cx bs :: kpE.L ww lk2 cw kss :: R) := k.pull2
  refine ap1 T84 k rfl (fun v hv => by simp at hv; subst hv; rfl) (by omega) fun a1 c1 h224 k => ⟨_, _, _, rfl, k.vnew fun b226 h227 k => ?_⟩
  have rb : RoX bytE none_ h227 (some ⟨b226, 0, none⟩) 1 [bs] := by
    refine ⟨[⟨x, cx, bs⟩], ?_, fun s hs => ?_, rfl, rfl⟩
    · have hs : Sl h227 (some ⟨b226, 0, none⟩) [.slice x bs.length cx] := k.slB (b := b226)
      exact hs.ro
    · rw [List.mem_singleton.1 hs]
      exact (k.sl (a := x)).ro
  refine CallsH.mono (over_spec rb (fun b hb' => by rw [List.mem_singleton.1 hb']; exact hb) (by omega)) ?_
  rintro _ h229 ⟨a230, c230, rfl, kd⟩
  have k := k.add1 kd
  refine ⟨_, _, _, rfl, k.vnew fun b231 h232 k => ?_⟩
  -- [b231, D, b226, vec, all, b219, BV, W, R]
  have k : St none_ h0 h232 (A.blk b231 (kpE.cells ⟨a230, c230, [bs]⟩).toArray 24 :: kpE.own ⟨a230, c230, [bs]⟩ :: A.blk b226 #[.slice x bs.length cx] 36 :: A.vec 24 1 a1 (lk2 + 1) c1 (ss.flatMap kpE.cells ++ [Value.slice (some ⟨b219, 0, none⟩) 1 1]) :: A.all (ss.map kpE.own) :: A.blk b219 #[.slice x bs.length cx] 36 :: BV x bs.length cx bs :: kpE.L ww lk2 cw kss :: R) := k
  have k := k.pull7.pull2.pull2
  refine El.app (E := kpE) (s := ⟨a230, c230, [bs]⟩) T84 k (by omega) fun a2 c2 h234 k => ⟨_, _, _, rfl, q a1 c1 a2 c2 h234 ?_⟩
  -- [W', b226, vec, all, b219, BV, R]
  have k := (k.pull1.drop).pull3
  have k := k.blkvec (n := 1) (sz := 1) rfl (by omega) (by omega)
  have k := k.pull4
  have k := ((k.all0).pull1.allIn)
  -- [all [BV], vec219, W', vec, all, R]
  have k : St none_ h0 h234 (bytE.L (some ⟨b219, 0, none⟩) 1 1 [bs] :: kpE.L a2 (lk2 + 1) c2 (kss ++ [[bs]]) :: A.vec 24 1 a1 (lk2 + 1) c1 (ss.flatMap kpE.cells ++ [Value.slice (some ⟨b219, 0, none⟩) 1 1]) :: A.all (ss.map kpE.own) :: R) :=
    El.close (E := bytE) (ss := [⟨x, cx, bs⟩]) rfl k.pull1
  have k := ((k.all0).pull1.allIn)
  have k : St none_ h0 h234 (A.vec 24 1 a1 (lk2 + 1) c1 (ss.flatMap kpE.cells ++ ([⟨some ⟨b219, 0, none⟩, 1, [bs]⟩] : List Sk).flatMap kpE.cells) :: A.all (ss.map kpE.own) :: A.all (([⟨some ⟨b219, 0, none⟩, 1, [bs]⟩] : List Sk).map kpE.own) :: kpE.L a2 (lk2 + 1) c2 (kss ++ [[bs]]) :: R) := k.pull3.pull3
  exact El.grown (E := kpE) (new := [⟨some ⟨b219, 0, none⟩, 1, [bs]⟩]) hss k
/-! ### Function 9's readings -/
/-- What is kept, and how much it is. -/
structure Kb (kss : List (List Bytes)) (lk B : Nat) : Prop where
  b : ∀ ks ∈ kss, ∀ b ∈ ks, b.length ≤ 1099511627776
  s : lsum kss ≤ B
  l : lk ≤ B
theorem Kb.one {B : Nat} (k : Kb kss lk B) (hb : bs.length ≤ 1099511627776) : Kb (kss ++ [[bs]]) (lk + 1) (B + 1) := by
  refine ⟨fun ks hks b hb2 => ?_, ?_, by have := k.l; omega⟩
  · rcases List.mem_append.1 hks with h1 | h1
    · exact k.b ks h1 b hb2
    · rw [List.mem_singleton.1 h1] at hb2
      rw [List.mem_singleton.1 hb2]; exact hb
  · have := k.s
    have e : lsum (kss ++ [[bs]]) = lsum kss + 1 := by unfold lsum; rw [List.map_append, List.sum_append]; rfl
    omega
theorem Kb.more {B B' : Nat} (k : Kb kss lk B) (hb : B ≤ B') : Kb kss lk B' := ⟨k.b, by have := k.s; omega, by have := k.l; omega⟩
def Kp (h0 h' : Heap) (B lq : Nat) (ka : Option Addr) (lk ck : Nat) (ww : Option Addr) (lw cw : Nat) (qa : Option Addr) (l1 c1 : Nat) (qw : Option Addr) (l2 c2 : Nat) (ua : Option Addr) (l3 c3 : Nat) (uw : Option Addr) (l4 c4 : Nat) : Prop :=
  lw = lk ∧ l1 = lq ∧ l2 = lq ∧ l3 = lq ∧ l4 = lq ∧ ∃ (kss : List (List Bytes)) (qs : List Rq) (us : List Rp), Kb kss lk B ∧ (∀ q ∈ qs, QuB q) ∧ (∀ u ∈ us, UuB u) ∧
    St none_ h0 h' [kpE.L ka lk ck kss, kpE.L ww lk cw kss, askE.L qa lq c1 qs, wqE.L qw lq c2 qs, tellE.L ua lq c3 us, wpE.L uw lq c4 us]
abbrev OpQ (qa : Option Addr) (l c : Nat) (sq : List Sqa) (s : Sqa) : A := A.all [A.vec 57 6 qa l c (sq.flatMap askE.cells ++ askE.cells s), A.all (sq.map askE.own)]
abbrev OpU (ua : Option Addr) (l c : Nat) (su : List Spa) (s : Spa) : A := A.all [A.vec 65 12 ua l c (su.flatMap tellE.cells ++ tellE.cells s), A.all (su.map tellE.own)]
set_option maxHeartbeats 8000000 in
theorem g9a_spec {raws : List Bytes} {B : Nat} {tot : Int} (hw : Wd none_ h0) (hs : Spk none_ h0) (rr : RoX bytC none_ h0 a l raws) (hraw : ∀ b ∈ raws, b.length ≤ 1099511627776) (hl : l ≤ 262144) (hB : B ≤ 274877906944) (kb : Kb kss lk B)
    (k : St none_ h0 h [kpE.L ka lk ck kss, kpE.L ww lk cw kss]) : G9a a l c ka lk ck ww lk cw tot h (fun v h' => v = .bool true ∧ Ext h0 h') := by
  have hf : ∀ b, none_ b → False ∨ h0.size ≤ b := fun _ h => h.elim
  unfold G9a
  have k := (El.nil wpE (El.nil tellE (El.nil wqE (El.nil askE k)))).sel 6 [4, 5, 3, 2, 1, 0] rfl (by decide) (L' := [_, _, _, _, _, _]) (by rfl)
  refine ⟨fun mm h' a1 l1 c1 a2 l2 c2 tt a3 l3 c3 a4 l4 c4 a5 l5 c5 a6 l6 c6 i => ∃ j : Nat, i = j ∧ j ≤ l ∧ mm = l - j ∧ Kp h0 h' (B + 6 * j) (2 * j) a1 l1 c1 a2 l2 c2 a3 l3 c3 a4 l4 c4 a5 l5 c5 a6 l6 c6,
    ⟨_, 0, rfl, Nat.zero_le _, rfl, rfl, rfl, rfl, rfl, rfl, kss, [], [], kb, (fun q hq => by cases hq), (fun q hq => by cases hq), k⟩, ?_⟩
  clear k kb
  rintro mm h57 _ a1 l1 c1 a2 l2 c2 tt a3 l3 c3 a4 l4 c4 a5 l5 c5 a6 l6 c6 i ⟨j, rfl, hj, rfl, kp⟩
  have fin : G9b a1 l1 c1 a2 l2 c2 a3 l3 c3 a4 l4 c4 a5 l5 c5 a6 l6 c6 h57 (fun v h' => v = .bool true ∧ Ext h0 h') := by
    obtain ⟨rfl, rfl, rfl, rfl, rfl, kss, qs, us, kb, hq, hu, k⟩ := kp
    exact g9b_spec k kb.b (by have := kb.s; omega) (by have := kb.l; omega) hq hu (by omega)
  refine cond_split (fun hc => ?_) (fun hc => fin)
  refine cond_split (fun hc2 => ?_) (fun hc2 => fin)
  clear fin hc2
  have hjl : j < l := Int.ofNat_lt.1 (of_decide_eq_true hc)
  obtain ⟨bs, hbs⟩ : ∃ bs, raws[j]? = some bs := ⟨_, List.getElem?_eq_getElem (by have := rr.len; omega)⟩
  have hbl := hraw _ (List.mem_of_getElem? hbs)
  have raw : ∀ {h' : Heap} {K : Addr → Prop}, Ext h0 h' → (∀ ad (x : Option Addr) (cx : Nat), cellH h' ad = some (.slice x bs.length cx) → Sl h' x (bytesV bs) → bs.length ≤ cx → K ad) → VIdx a l (j : Int) 1 K := fun m q =>
    rr.one m (by omega) (by omega) fun ad z hz hcz hrd => by
      rw [Int.toNat_natCast, hbs] at hz
      have hz : bs = z.bs := Option.some.inj hz
      have hrd : Ro none_ h0 z.a (bytesV z.bs) ∧ z.bs.length ≤ z.c := hrd
      exact q ad z.a z.c (by rw [hz]; exact hcz 0 _ rfl) (by rw [hz]; exact (hrd.1.mod m).sl) (by rw [hz]; exact hrd.2)
  refine ⟨fun mm h' a1 l1 c1 a2 l2 c2 tt a3 l3 c3 a4 l4 c4 a5 l5 c5 a6 l6 c6 i => ∃ e : Nat, i = e ∧ e ≤ 2 ∧ mm = 2 - e ∧ Kp h0 h' (B + 6 * j + 3 * e) (2 * j + e) a1 l1 c1 a2 l2 c2 a3 l3 c3 a4 l4 c4 a5 l5 c5 a6 l6 c6,
    ⟨_, 0, rfl, Nat.zero_le _, rfl, kp⟩, ?_⟩
  clear kp
  rintro mm h70 _ a1 l1 c1 a2 l2 c2 tt a3 l3 c3 a4 l4 c4 a5 l5 c5 a6 l6 c6 i ⟨e, rfl, he, rfl, kp⟩
  refine cond_split (fun hc => ?_) (fun hc => ?_)
  rotate_left
  · have he2 : e = 2 := by have : ¬ (e : Int) < 2 := of_decide_eq_false hc; omega
    subst he2
    exact ⟨l - (j + 1), by omega, j + 1, wrap_nat hjl (by omega), hjl, rfl, kp⟩
  have hel : e < 2 := by have : (e : Int) < 2 := of_decide_eq_true hc; omega
  refine ⟨fun h' a1 l1 c1 a2 l2 c2 tt a3 l3 c3 a4 l4 c4 a5 l5 c5 a6 l6 c6 _ _ _ _ _ _ _ _ => Kp h0 h' (B + 6 * j + 3 * (e + 1)) (2 * j + (e + 1)) a1 l1 c1 a2 l2 c2 a3 l3 c3 a4 l4 c4 a5 l5 c5 a6 l6 c6, ?_, fun h' _ a1 l1 c1 a2 l2 c2 tt a3 l3 c3 a4 l4 c4 a5 l5 c5 a6 l6 c6 _ _ _ _ _ _ _ _ kp => ⟨2 - (e + 1), by omega, e + 1, wrap_nat hel (by omega), hel, rfl, kp⟩⟩
  obtain ⟨rfl, rfl, rfl, rfl, rfl, kss, qs, us, kb, hq, hu, k⟩ := kp
  generalize hBe : B + 6 * j + 3 * e = Be at *
  have hBe2 : B + 6 * j + 3 * (e + 1) = Be + 3 := by omega
  rw [hBe2]
  clear hBe2
  generalize hn : 2 * j + e = nq at *
  have hn2 : 2 * j + (e + 1) = nq + 1 := by omega
  rw [hn2]
  clear hn2
  have hnq : nq ≤ 1048576 := by omega
  have hBb : Be ≤ 549755813888 := by omega
  have hlk := kb.l
  -- the lists of what was read are opened
  obtain ⟨su, hsu, k⟩ := El.open (E := tellE) k.pull4
  obtain ⟨sq, hsq, k⟩ := El.open (E := askE) k.pull4
  -- [vecQ, allQ, vecU, allU, K, W, WQ, WU]
  refine raw k.ext fun ad x cx hcd hsl hxc => ⟨_, _, _, hcd, raw k.ext fun ad2 x2 cx2 hcd2 hsl2 hxc2 => ⟨_, _, _, hcd2, ?_⟩⟩
  refine CallsH.mono (asked_spec (hw.at k.ext hf) (hs.at k.ext hf) hsl2 rfl hxc2) ?_
  rintro _ h87 ⟨na, nc, ea, ec, rfl, kq⟩
  have k := k.add2 kq
  refine ⟨_, _, _, _, _, _, _, _, _, _, _, rfl, k.vnew fun b95 h96 k => k.vall (by rfl) (by rfl) fun h97 k => ?_⟩
  refine raw k.ext fun ad3 x3 cx3 hcd3 hsl3 hxc3 => ⟨_, _, _, hcd3, ?_⟩
  refine CallsH.mono (told_spec hsl3 rfl hxc3) ?_
  rintro _ h101 ⟨ga, gc, ha, hc', nb, nd, ra, rc, rfl, ku⟩
  have k := k.add ku
  refine ⟨_, _, _, _, _, _, _, _, _, _, _, _, _, _, _, _, _, _, _, _, _, rfl, k.vnew fun b115 h116 k => k.vall (by rfl) (by rfl) fun h117 k => ?_⟩
  have hqb := asked_b bs
  have hub := told_b bs
  have hqr := fun z => asked_rq (bs := bs) z
  have hur := fun z => told_rp (bs := bs) z
  generalize (askedR bs).1 = q at *
  generalize (askedR bs).2 = eq_ at *
  generalize (toldR bs).1 = u at *
  generalize (toldR bs).2 = eu_ at *
  obtain ⟨s, hs0⟩ : ∃ s : Sqa, s = ⟨q, na, nc, ea, ec⟩ := ⟨_, rfl⟩
  obtain ⟨r, hr0⟩ : ∃ r : Spa, r = ⟨u, ga, gc, ha, hc', nb, nd, ra, rc⟩ := ⟨_, rfl⟩
  -- [b115, err, hit, tex, row, b95, tex, ev, vecQ, allQ, vecU, allU, K, W, WQ, WU]
  have k := St.close (L := [texE.L na q.names.length nc q.names, evE.L ea q.evs.length ec q.evs]) (k.sel 16 [6, 7, 0, 1, 2, 3, 4, 5, 8, 9, 10, 11, 12, 13, 14, 15] rfl (by decide) (L' := [_, _, _, _, _, _, _, _, _, _, _, _, _, _, _, _]) (by rfl))
  have k := St.close (L := [errE.L ga u.errs.length gc u.errs, hitE.L ha u.hits.length hc' u.hits, texE.L nb u.names.length nd u.names, rowE.L ra u.rows.length rc u.rows]) (k.sel 15 [2, 3, 4, 5, 0, 1, 6, 7, 8, 9, 10, 11, 12, 13, 14] rfl (by decide) (L' := [_, _, _, _, _, _, _, _, _, _, _, _, _, _, _]) (by rfl))
  have k : St none_ h0 h117 [tellE.own r, askE.own s, A.blk b115 (rpV u ga gc ha hc' nb nd ra rc).toArray 65, A.blk b95 (rqV q na nc ea ec).toArray 57, A.vec 57 6 a3 nq c3 (sq.flatMap askE.cells), A.all (sq.map askE.own), A.vec 65 12 a5 nq c5 (su.flatMap tellE.cells), A.all (su.map tellE.own), kpE.L a1 l2 c1 kss, kpE.L a2 l2 c2 kss, wqE.L a4 nq c4 qs, wpE.L a6 nq c6 us] := by
    rw [hs0, hr0]; exact k
  refine ⟨_, k.rd (by rfl), _, k.rd (by rfl), _, k.rd (by rfl), _, k.rd (by rfl), _, _, _, k.rd (by rfl), _, _, _, k.rd (by rfl), k.vnew fun b124 h125 k => ?_⟩
  have k := k.sel 13 [0, 5, 1, 2, 3, 4, 6, 7, 8, 9, 10, 11, 12] rfl (by decide) (L' := [A.blk b124 (rqV q na nc ea ec).toArray 57, A.vec 57 6 a3 nq c3 (sq.flatMap askE.cells), _, _, _, _, _, _, _, _, _, _, _]) (by rfl)
  refine ap1 T22 k rfl (fun v hv => by simp at hv; rcases hv with rfl | rfl | rfl | rfl | rfl | rfl <;> rfl) (by omega) fun a3' c3' h127 k => ⟨_, _, _, rfl, ?_⟩
  refine ⟨_, k.rd (by rfl), _, k.rd (by rfl), _, k.rd (by rfl), _, k.rd (by rfl), _, _, _, k.rd (by rfl), _, _, _, k.rd (by rfl), _, _, _, k.rd (by rfl), _, _, _, k.rd (by rfl), _, k.rd (by rfl), _, k.rd (by rfl), _, k.rd (by rfl), _, k.rd (by rfl), k.vnew fun b141 h142 k => ?_⟩
  -- [b141, vecQ', ownU, ownQ, b115, b95, allQ, vecU, allU, K, W, WQ, WU]
  have k := k.sel 13 [0, 7, 1, 2, 3, 4, 5, 6, 8, 9, 10, 11, 12] rfl (by decide) (L' := [A.blk b141 (rpV u ga gc ha hc' nb nd ra rc).toArray 65, A.vec 65 12 a5 nq c5 (su.flatMap tellE.cells), _, _, _, _, _, _, _, _, _, _, _]) (by rfl)
  refine ap1 T23p k rfl (fun v hv => by simp at hv; rcases hv with rfl | rfl | rfl | rfl | rfl | rfl | rfl | rfl | rfl | rfl | rfl | rfl <;> rfl) (by omega) fun a5' c5' h144 k => ⟨_, _, _, rfl, ?_⟩
  -- [vecU', vecQ', ownU, ownQ, b115, b95, allQ, allU, K, W, WQ, WU]
  have k := k.sel 12 [0, 7, 1, 6, 2, 3, 4, 5, 8, 9, 10, 11] rfl (by decide) (L' := [A.vec 65 12 a5' (nq + 1) c5' (su.flatMap tellE.cells ++ rpV u ga gc ha hc' nb nd ra rc), A.all (su.map tellE.own), A.vec 57 6 a3' (nq + 1) c3' (sq.flatMap askE.cells ++ rqV q na nc ea ec), A.all (sq.map askE.own), tellE.own r, askE.own s, _, _, _, _, _, _]) (by rfl)
  have k := St.close (L := [_, _]) k
  have k := St.close (L := [_, _]) k.pull2.pull2
  have k : St none_ h0 h144 [OpQ a3' (nq + 1) c3' sq s, OpU a5' (nq + 1) c5' su r, tellE.own r, askE.own s, A.blk b115 (rpV u ga gc ha hc' nb nd ra rc).toArray 65, A.blk b95 (rqV q na nc ea ec).toArray 57, kpE.L a1 l2 c1 kss, kpE.L a2 l2 c2 kss, wqE.L a4 nq c4 qs, wpE.L a6 nq c6 us] := by
    rw [hs0, hr0] at *; exact k
  -- the twins
  have rq : ∀ {h' : Heap} {R : List A}, St none_ h0 h' (askE.own s :: R) → RqRo none_ h' q na ea := fun k => by
    rw [hs0] at k
    exact askE.rdOwn (s := ⟨q, na, nc, ea, ec⟩) k
  have ru : ∀ {h' : Heap} {R : List A}, St none_ h0 h' (tellE.own r :: R) → RpRo none_ h' u ga ha nb ra := fun k => by
    rw [hr0] at k
    exact tellE.rdOwn (s := ⟨u, ga, gc, ha, hc', nb, nd, ra, rc⟩) k
  have k := k.sel 10 [3, 2, 4, 5, 0, 1, 6, 7, 8, 9] rfl (by decide) (L' := [askE.own s, tellE.own r, A.blk b115 (rpV u ga gc ha hc' nb nd ra rc).toArray 65, A.blk b95 (rqV q na nc ea ec).toArray 57, OpQ a3' (nq + 1) c3' sq s, OpU a5' (nq + 1) c5' su r, kpE.L a1 l2 c1 kss, kpE.L a2 l2 c2 kss, wqE.L a4 nq c4 qs, wpE.L a6 nq c6 us]) (by rfl)
  refine ⟨_, k.rd (by rfl), _, k.rd (by rfl), _, k.rd (by rfl), _, k.rd (by rfl), _, _, _, k.rd (by rfl), _, _, _, k.rd (by rfl), ?_⟩
  have tb := tkB hqb hub
  refine CallsH.mono (twinOf_own tb.n1 tb.ev tb.vs (rq k)) ?_
  rintro _ h153 ⟨tn, cn, te, ce, tv, cv, rfl, kt⟩
  have k := k.add1 kt
  refine ⟨_, _, _, _, _, _, _, _, _, _, _, _, _, _, _, _, _, _, _, rfl, field77 ⟨_, _, _, _, _, _, _, _, _, _, rfl, k.vnew fun b170 h171 k => ?_⟩⟩
  -- [b170, of, ...]
  have k := k.sel 12 [0, 1, 10, 2, 3, 4, 5, 6, 7, 8, 9, 11] rfl (by decide) (L' := [A.blk b170 (wqE.cells ⟨q, tn, q.names.length + 12, te, q.evs.length + 12⟩).toArray 57, wqE.own ⟨q, tn, q.names.length + 12, te, q.evs.length + 12⟩, wqE.L a4 nq c4 qs, _, _, _, _, _, _, _, _, _]) (by rfl)
  refine El.app (E := wqE) T22 k (by omega) fun a4' c4' h173 k => ⟨_, _, _, rfl, ?_⟩
  refine ⟨_, k.rd (by rfl), _, k.rd (by rfl), _, k.rd (by rfl), _, k.rd (by rfl), _, _, _, k.rd (by rfl), _, _, _, k.rd (by rfl), _, _, _, k.rd (by rfl), _, _, _, k.rd (by rfl), _, k.rd (by rfl), _, k.rd (by rfl), _, k.rd (by rfl), _, k.rd (by rfl), ?_⟩
  -- [wq, ownQ, ownU, b115, b95, OpQ, OpU, K, W, WU]
  refine CallsH.mono (taleOf_own ⟨tb.er, tb.hi, tb.n2, tb.ro, tb.hv, tb.rv⟩ (ru k.pull2)) ?_
  rintro _ h188 ⟨bt, tte, tce, ttn, tcn, tth, tch, ttr, tcr, ttv, tcv, rfl, kt⟩
  have k := k.add1 kt
  have ta := k.of.blk
  refine ⟨_, rfl, VSome.mk ⟨_, Ro.cell ta (j := 0) rfl, _, Ro.cell ta (j := 1) rfl, _, Ro.cell ta (j := 2) rfl, _, Ro.cell ta (j := 3) rfl, _, _, _, Ro.cell ta (j := 4) rfl, _, _, _, Ro.cell ta (j := 5) rfl, _, _, _, Ro.cell ta (j := 6) rfl, _, _, _, Ro.cell ta (j := 7) rfl, _, Ro.cell ta (j := 8) rfl, _, Ro.cell ta (j := 9) rfl, _, Ro.cell ta (j := 10) rfl, _, Ro.cell ta (j := 11) rfl, ?_⟩⟩
  have k := k.of_mono (Q' := fun h => RpRo none_ h u tte tth ttn ttr) fun h t => t.ro
  refine k.vnew fun b203 h204 k => ?_
  -- [b203, of, wq, ownQ, ownU, b115, b95, OpQ, OpU, K, W, WU]
  have k := k.sel 12 [0, 1, 11, 2, 3, 4, 5, 6, 7, 8, 9, 10] rfl (by decide) (L' := [A.blk b203 (wpE.cells ⟨u, tte, u.errs.length + 12, tth, u.hits.length + 12, ttn, u.names.length + 12, ttr, u.rows.length + 12⟩).toArray 65, wpE.own ⟨u, tte, u.errs.length + 12, tth, u.hits.length + 12, ttn, u.names.length + 12, ttr, u.rows.length + 12⟩, wpE.L a6 nq c6 us, _, _, _, _, _, _, _, _, _]) (by rfl)
  refine El.app (E := wpE) T23p k (by omega) fun a6' c6' h206 k => ⟨_, _, _, rfl, ?_⟩
  -- [wu, wq, ownQ, ownU, b115, b95, OpQ, OpU, K, W]
  have k : St none_ h0 h206 [kpE.L a1 l2 c1 kss, kpE.L a2 l2 c2 kss, askE.own s, tellE.own r, A.blk b115 (rpV u ga gc ha hc' nb nd ra rc).toArray 65, A.blk b95 (rqV q na nc ea ec).toArray 57, OpQ a3' (nq + 1) c3' sq s, OpU a5' (nq + 1) c5' su r, wqE.L a4' (nq + 1) c4' (qs ++ [q]), wpE.L a6' (nq + 1) c6' (us ++ [u])] :=
    k.sel 10 [8, 9, 2, 3, 4, 5, 6, 7, 1, 0] rfl (by decide) (by rfl)
  -- what is written of them
  refine ⟨fun h' a1 l1 c1 a2 l2 c2 => l2 = l1 ∧ ∃ kss : List (List Bytes), Kb kss l1 (Be + 1) ∧ St none_ h0 h' [kpE.L a1 l1 c1 kss, kpE.L a2 l1 c2 kss, askE.own s, tellE.own r, A.blk b115 (rpV u ga gc ha hc' nb nd ra rc).toArray 65, A.blk b95 (rqV q na nc ea ec).toArray 57, OpQ a3' (nq + 1) c3' sq s, OpU a5' (nq + 1) c5' su r, wqE.L a4' (nq + 1) c4' (qs ++ [q]), wpE.L a6' (nq + 1) c6' (us ++ [u])], ?_, ?_⟩
  · refine cond_split (fun hz => ?_) (fun _ => ⟨rfl, kss, kb.more (by omega), k⟩)
    refine ⟨_, k.rd (by rfl), _, k.rd (by rfl), _, k.rd (by rfl), _, k.rd (by rfl), _, _, _, k.rd (by rfl), _, _, _, k.rd (by rfl), ?_⟩
    refine CallsH.mono (ask_spec (hw.at k.ext hf) (hs.at k.ext hf) (hqr (by simpa using hz)) (rq k.pull2)) ?_
    rintro _ h216 ⟨x, cx, rfl, kd⟩
    have hxl := askR_len q
    have k := k.add1 kd
    exact ⟨_, _, _, _, rfl, keepOne k (by omega) (by omega) fun _ _ _ _ h' k => ⟨rfl, _, kb.one (by omega), k⟩⟩
  clear k kb hlk
  rintro h236 _ a1 _ c1 a2 l1 c2 ⟨rfl, kss, kb, k⟩
  have hlk := kb.l
  refine ⟨fun h' a1 l1 c1 a2 l2 c2 => l2 = l1 ∧ ∃ kss : List (List Bytes), Kb kss l1 (Be + 2) ∧ St none_ h0 h' [kpE.L a1 l1 c1 kss, kpE.L a2 l1 c2 kss, askE.own s, tellE.own r, A.blk b115 (rpV u ga gc ha hc' nb nd ra rc).toArray 65, A.blk b95 (rqV q na nc ea ec).toArray 57, OpQ a3' (nq + 1) c3' sq s, OpU a5' (nq + 1) c5' su r, wqE.L a4' (nq + 1) c4' (qs ++ [q]), wpE.L a6' (nq + 1) c6' (us ++ [u])], ?_, ?_⟩
  · refine cond_split (fun hz => ?_) (fun _ => ⟨rfl, kss, kb.more (by omega), k⟩)
    refine ⟨_, k.rd (by rfl), _, k.rd (by rfl), _, k.rd (by rfl), _, k.rd (by rfl), _, _, _, k.rd (by rfl), _, _, _, k.rd (by rfl), _, _, _, k.rd (by rfl), _, _, _, k.rd (by rfl), _, k.rd (by rfl), _, k.rd (by rfl), _, k.rd (by rfl), _, k.rd (by rfl), ?_⟩
    refine CallsH.mono (tell_spec (hur (by simpa using hz)) (ru k.pull3)) ?_
    rintro _ h216 ⟨x, cx, rfl, kd⟩
    have hxl := tellR_len u
    have k := k.add1 kd
    exact ⟨_, _, _, _, rfl, keepOne k (by omega) (by omega) fun _ _ _ _ h' k => ⟨rfl, _, kb.one (by omega), k⟩⟩
  clear k kb hlk
  rintro h274 _ a1 _ c1 a2 l1 c2 ⟨rfl, kss, kb, k⟩
  have hlk := kb.l
  -- the element is closed again
  have k := k.sel 10 [6, 7, 2, 3, 0, 1, 8, 9, 4, 5] rfl (by decide) (L' := [OpQ a3' (nq + 1) c3' sq s, OpU a5' (nq + 1) c5' su r, askE.own s, tellE.own r, kpE.L a1 l1 c1 kss, kpE.L a2 l1 c2 kss, wqE.L a4' (nq + 1) c4' (qs ++ [q]), wpE.L a6' (nq + 1) c6' (us ++ [u]), _, _]) (by rfl)
  have k := keep (L := [_, _, _, _, _, _, _, _]) (R := [_, _]) k
  have k := St.open (L := [A.vec 57 6 a3' (nq + 1) c3' (sq.flatMap askE.cells ++ askE.cells s), A.all (sq.map askE.own)]) k
  have k : St none_ h0 h274 (askE.L a3' (nq + 1) c3' (qs ++ [s].map askE.val) :: [OpU a5' (nq + 1) c5' su r, tellE.own r, kpE.L a1 l1 c1 kss, kpE.L a2 l1 c2 kss, wqE.L a4' (nq + 1) c4' (qs ++ [q]), wpE.L a6' (nq + 1) c6' (us ++ [u])]) := by
    refine El.grown (E := askE) hsq ?_
    have k := (k.pull3.all0).pull1.allIn
    have e : [s].flatMap askE.cells = askE.cells s := by simp
    rw [e]
    exact k.sel 9 [1, 2, 0, 3, 4, 5, 6, 7, 8] rfl (by decide) (by rfl)
  have k := St.open (L := [A.vec 65 12 a5' (nq + 1) c5' (su.flatMap tellE.cells ++ tellE.cells r), A.all (su.map tellE.own)]) k.pull1
  have k : St none_ h0 h274 (tellE.L a5' (nq + 1) c5' (us ++ [r].map tellE.val) :: [askE.L a3' (nq + 1) c3' (qs ++ [s].map askE.val), kpE.L a1 l1 c1 kss, kpE.L a2 l1 c2 kss, wqE.L a4' (nq + 1) c4' (qs ++ [q]), wpE.L a6' (nq + 1) c6' (us ++ [u])]) := by
    refine El.grown (E := tellE) hsu ?_
    have k := (k.pull3.all0).pull1.allIn
    have e : [r].flatMap tellE.cells = tellE.cells r := by simp
    rw [e]
    exact k.sel 8 [1, 2, 0, 3, 4, 5, 6, 7] rfl (by decide) (by rfl)
  have eq1 : qs ++ [s].map askE.val = qs ++ [q] := by rw [hs0]; rfl
  have eu1 : us ++ [r].map tellE.val = us ++ [u] := by rw [hr0]; rfl
  rw [eq1, eu1] at k
  have hq' : ∀ x ∈ qs ++ [q], QuB x := fun x hx => by
    rcases List.mem_append.1 hx with h1 | h1
    · exact hq x h1
    · rw [List.mem_singleton.1 h1]; exact hqb
  have hu' : ∀ x ∈ us ++ [u], UuB x := fun x hx => by
    rcases List.mem_append.1 hx with h1 | h1
    · exact hu x h1
    · rw [List.mem_singleton.1 h1]; exact hub
  have k := k.sel 6 [2, 3, 1, 4, 0, 5] rfl (by decide) (L' := [kpE.L a1 l1 c1 kss, kpE.L a2 l1 c2 kss, askE.L a3' (nq + 1) c3' (qs ++ [q]), wqE.L a4' (nq + 1) c4' (qs ++ [q]), tellE.L a5' (nq + 1) c5' (us ++ [u]), wpE.L a6' (nq + 1) c6' (us ++ [u])]) (by rfl)
  refine raw k.ext fun ad4 x4 cx4 hcd4 hsl4 hxc4 => ⟨_, _, _, hcd4, ?_⟩
  refine CallsH.mono (frame_spec hsl4 rfl) ?_
  rintro _ h281 ⟨x, cx', rfl, kd⟩
  have hxl := frameR_len bs
  refine ⟨_, _, _, _, rfl, cond_split (fun _ => ?_) (fun _ => ?_)⟩
  · have k := k.add1 kd
    exact keepOne k (by omega) (by omega) fun _ _ _ _ h' k => ⟨rfl, rfl, rfl, rfl, rfl, _, _, _, kb.one (by omega), hq', hu', k⟩
  · exact ⟨rfl, rfl, rfl, rfl, rfl, _, _, _, kb.more (by omega), hq', hu', k.next kd.ext⟩
end Go.Proofs.YtgdgebmlcgohhaaGreatDoor.F
