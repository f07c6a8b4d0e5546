/- The laws of wire: every call in every order. Conditions: none. -/
import Derived.Test.YtofaihacmoacjaaDoorWU
namespace Go.Proofs.YtofaihacmoacjaaDoor.F
open Go Go.VC Go.Proofs
set_option linter.unusedSimpArgs false
set_option linter.unusedVariables false
set_option maxRecDepth 100000
attribute [local irreducible] CallsH RunsTo PureTo

variable {S F G : Nat → Prop} {h0 h h1 : Heap} {L R L' : List A} {a b : Option Addr} {l c l2 c2 p t at_ : Nat} {bs cs raw : List UInt8} {e : Ev} {v : Val} {es fs : List Ev} {ts : List Td}
/-- Answers, as they may be read. -/
structure TdRo (h : Heap) (m : Tm) : Prop where
  b : Sl h m.ba (bytesV m.t.b)
  es : RoE none_ h m.ea m.t.es.length m.t.es
  lb : m.t.b.length ≤ big
  le : m.t.es.length ≤ big
  lv : ∀ e ∈ m.t.es, e.vs.length ≤ big
theorem TdRo.ext {m : Tm} (k : TdRo h0 m) (x : Ext h0 h) : TdRo h m := ⟨k.b.ext x, k.es.ext x, k.lb, k.le, k.lv⟩
theorem agree_spec {m1 m2 : Tm} (r1 : TdRo h m1) (r2 : TdRo h m2) (ht : m1.t = m2.t) : CallsH Tryd.prog 42 #[tdV m1, tdV m2] h (fun v h' => v = .bool true ∧ Ext h h') := by
  refine vf42 _ _ _ _ _ _ _ _ _ _ _ _ _ _ _ _ _ _ h _ ?_
  unfold F42
  have k := St.fresh h
  have hbig : big = 137438953472 := rfl
  have q1 := r1.lb
  have q2 := r1.le
  have q3 := r1.lv
  refine k.vnew fun b1 h2 k => k.vnew fun b3 h4 k => ⟨_, k.rd (by rfl), _, k.rd (by rfl), cond_true (by rw [ht]; simp) ⟨_, k.rd (by rfl), _, k.rd (by rfl), cond_true (by rw [ht]; simp) ⟨_, k.rd (by rfl), _, k.rd (by rfl), cond_true (by rw [ht]; simp) ⟨_, _, _, k.rd (by rfl), _, _, _, k.rd (by rfl), ?_⟩⟩⟩⟩
  refine CallsH.mono (same_spec (r1.b.ext k.ext) rfl (r2.b.ext k.ext) rfl (by omega)) ?_
  rintro _ _ ⟨rfl, rfl⟩
  refine ⟨_, rfl, cond_true (by rw [ht]; simp) ⟨_, _, _, k.rd (by rfl), _, _, _, k.rd (by rfl), ?_⟩⟩
  refine CallsH.mono (lists_spec (r1.es.ext k.ext) (r2.es.ext k.ext) (by omega) (fun e he => by have := q3 e he; omega)) ?_
  rintro _ h19 ⟨rfl, m⟩
  exact ⟨_, rfl, by rw [ht]; simp, (k.next m).ext⟩
theorem weight_spec {m : Tm} (r : TdRo h m) : CallsH Tryd.prog 43 #[tdV m] h (fun v h' => ∃ n : Int, v = .int .i64 n ∧ Ext h h') := by
  refine vf43 _ _ _ _ _ _ _ _ _ h _ ?_
  unfold F43
  have k := St.fresh h
  have hbig : big = 137438953472 := rfl
  have q2 := r.le
  refine k.vnew fun b1 h2 k => ⟨_, _, _, k.rd (by rfl), ?_⟩
  refine ⟨fun n hh _ i => ∃ j : Nat, i = j ∧ j ≤ m.t.es.length ∧ n = m.t.es.length - j ∧ hh = h2, ⟨_, 0, rfl, by omega, rfl, rfl⟩, ?_⟩
  rintro n hh _ _ i ⟨j, rfl, hj, rfl, rfl⟩
  refine ⟨_, _, _, k.rd (by rfl), cond_split (fun hc => ?_) (fun hc => ⟨_, rfl, k.ext⟩)⟩
  have hjl : j < m.t.es.length := Int.ofNat_lt.1 (of_decide_eq_true hc)
  refine ⟨_, _, _, k.rd (by rfl), (r.es.ext k.ext).one (by omega) (by omega) fun ad x hx c0 c1 c2 kx => ⟨_, _, _, c2, ?_⟩⟩
  exact ⟨_, by omega, j + 1, wrap_nat hjl (by omega), hjl, rfl, rfl⟩
/-! ### Lists of answers that are held -/
abbrev TdA (m : Tm) : A := A.all [BVt m, LEt m]
def TL (a : Option Addr) (l c : Nat) (ts : List Td) : A :=
  A.ex fun xs : List Tm => A.fact (xs.map Tm.t = ts) (A.all [A.vec 75 5 a l c (xs.flatMap tdC), A.all (xs.map TdA)])
theorem TL.open (k : St S h0 h (TL a l c ts :: R)) : ∃ xs : List Tm, xs.map Tm.t = ts ∧ St S h0 h (A.vec 75 5 a l c (xs.flatMap tdC) :: A.all (xs.map TdA) :: R) := by
  obtain ⟨xs, k⟩ := St.opens k
  obtain ⟨he, k⟩ := k.facts
  exact ⟨xs, he, St.open (L := [A.vec 75 5 a l c (xs.flatMap tdC), A.all (xs.map TdA)]) k⟩
theorem TL.close {xs : List Tm} (he : xs.map Tm.t = ts) (k : St S h0 h (A.vec 75 5 a l c (xs.flatMap tdC) :: A.all (xs.map TdA) :: R)) : St S h0 h (TL a l c ts :: R) :=
  St.closes (f := fun xs : List Tm => A.fact (xs.map Tm.t = ts) (A.all [A.vec 75 5 a l c (xs.flatMap tdC), A.all (xs.map TdA)])) (x := xs) (St.mkfact he (St.close (L := [A.vec 75 5 a l c (xs.flatMap tdC), A.all (xs.map TdA)]) k))
theorem St.tlnil (k : St S h0 h R) : St S h0 h (TL none 0 0 [] :: R) :=
  TL.close (xs := []) rfl ((k.all0).vnil 75 (sz := 5) (by omega))
theorem TL.len (k : St S h0 h (TL a l c ts :: R)) : ts.length = l := by
  obtain ⟨xs, he, k⟩ := TL.open k
  obtain ⟨v, _, hc⟩ := St.vec (a := a) k
  have := v.len
  rw [flatMap_len (sz := 5) (fun _ => rfl)] at this
  rw [← he, List.length_map]; omega
theorem und69 : Tryd.prog.underlying 69 = some (.slice 75) := by kernel_rfl
abbrev zeroT : List Value := [.slice none 0 0, .int .i64 0, .int .i64 0, .slice none 0 0, .int .i64 0]
theorem T69 : SlTy Tryd.prog 69 75 5 72 (.agg zeroT.toArray) := ⟨und69, by kernel_rfl, rfl, by omega, by omega⟩
theorem oneC_td (m : Tm) : ∀ v ∈ tdC m, oneC v = true := by
  intro w hw
  simp only [tdC, List.mem_cons, List.not_mem_nil, or_false] at hw
  rcases hw with rfl | rfl | rfl | rfl | rfl <;> rfl
theorem app_tdO {m : Tm} {bb : Nat} {xs : List Tm} (k : St S h0 h (A.blk bb (tdC m).toArray 75 :: BVt m :: LEt m :: A.vec 75 5 a l c (xs.flatMap tdC) :: A.all (xs.map TdA) :: R)) (hb : l + 1 ≤ 1954687338268) {K : KV}
    (q : ∀ a' c' h', St S h0 h' (A.vec 75 5 a' (l + 1) c' ((xs ++ [m]).flatMap tdC) :: A.all ((xs ++ [m]).map TdA) :: R) → K (.slice a' (l + 1) c') h') : RunsTo Tryd.prog (Builtin.append_ #[69, 69] 69 #[.slice a l c, .slice (some ⟨bb, 0, none⟩) 1 1]) h K := by
  have hsl : Sl h (some ⟨bb, 0, none⟩) (tdC m) := k.slB (b := bb)
  have k : St S h0 h (A.vec 75 5 a l c (xs.flatMap tdC) :: A.blk bb (tdC m).toArray 75 :: BVt m :: LEt m :: A.all (xs.map TdA) :: R) := k.pull3
  refine k.app T69 und69 (by simp) (Src.slice hsl rfl) (oneC_td m) (by omega) fun a' c' h' k => q a' c' h' ?_
  have e1 : xs.flatMap tdC ++ tdC m = (xs ++ [m]).flatMap tdC := by rw [List.flatMap_append]; simp
  rw [e1] at k
  have k : St S h0 h' (BVt m :: LEt m :: A.all (xs.map TdA) :: A.vec 75 5 a' (l + 1) c' ((xs ++ [m]).flatMap tdC) :: R) := (k.pull1.drop).pull3.pull3.pull3
  have k : St S h0 h' (TdA m :: A.all (xs.map TdA) :: A.vec 75 5 a' (l + 1) c' ((xs ++ [m]).flatMap tdC) :: R) := St.close (L := [BVt m, LEt m]) k
  have k := k.allIn.allPerm (L' := (xs ++ [m]).map TdA) (by rw [List.map_append]; exact (List.perm_append_singleton _ _).symm)
  exact k.pull1
theorem app_td {m : Tm} {bb : Nat} (k : St S h0 h (A.blk bb (tdC m).toArray 75 :: BVt m :: LEt m :: TL a l c ts :: R)) (hb : l + 1 ≤ 1954687338268) {K : KV}
    (q : ∀ a' c' h', St S h0 h' (TL a' (l + 1) c' (ts ++ [m.t]) :: R) → K (.slice a' (l + 1) c') h') : RunsTo Tryd.prog (Builtin.append_ #[69, 69] 69 #[.slice a l c, .slice (some ⟨bb, 0, none⟩) 1 1]) h K := by
  have k : St S h0 h (TL a l c ts :: A.blk bb (tdC m).toArray 75 :: BVt m :: LEt m :: R) := k.pull3
  obtain ⟨xs, he, k⟩ := TL.open k
  have k : St S h0 h (A.blk bb (tdC m).toArray 75 :: BVt m :: LEt m :: A.vec 75 5 a l c (xs.flatMap tdC) :: A.all (xs.map TdA) :: R) := k.pull4.pull4.pull4
  exact app_tdO k hb fun a' c' h' k => q a' c' h' (TL.close (xs := xs ++ [m]) (by rw [List.map_append, he]; rfl) k)
theorem td_at {xs : List Tm} {m : Tm} {i : Nat} (k : St S h0 h (A.all (xs.map TdA) :: R)) (hx : xs[i]? = some m) (hr : ∀ e ∈ m.t.es, rngE e ∧ e.vs.length ≤ 16) (hl : m.t.b.length ≤ big ∧ m.t.es.length ≤ big) : TdRo h m := by
  have k := allAt hx k
  have k : St S h0 h (BVt m :: LEt m :: A.all ((xs.take i ++ xs.drop (i + 1)).map TdA) :: R) := St.open (L := [BVt m, LEt m]) k
  have hbig : big = 137438953472 := rfl
  exact ⟨k.sl (a := m.ba), LE.ro k.drop fun e he => (hr e he).1, hl.1, hl.2, fun e he => by have := (hr e he).2; omega⟩
theorem td_two {m : Tm} {o : Op} (k : St S h0 h (BVt m :: LEt m :: R)) (hm : m.t = runP o) : TdRo h m := by
  have hbig : big = 137438953472 := rfl
  have h1 := run_len o
  rw [← hm] at h1
  have h2 := run_rng o
  rw [← hm] at h2
  exact ⟨k.sl (a := m.ba), LE.ro k.drop fun e he => (h2 e he).1, by omega, by omega, fun e he => by have := (h2 e he).2; omega⟩
def Good (ts : List Td) : Prop := ∀ t ∈ ts, (∀ e ∈ t.es, rngE e ∧ e.vs.length ≤ 16) ∧ t.b.length ≤ big ∧ t.es.length ≤ big
theorem Good.add {o : Op} {t : Td} (k : Good ts) (ht : t = runP o) : Good (ts ++ [t]) := fun x hx => by
  rcases List.mem_append.1 hx with h1 | h1
  · exact k x h1
  · rcases List.mem_singleton.1 h1 with rfl
    have hbig : big = 137438953472 := rfl
    have h1 := run_len o
    rw [ht]
    exact ⟨run_rng o, by omega, by omega⟩
theorem zero_ok (T : Nat) : OpOk T ⟨0, 0, [], noEv, []⟩ := ⟨⟨by show (-9223372036854775808 : Int) ≤ 0; omega, by show (0 : Int) < _; omega⟩, (by intro v hv; cases hv), Nat.zero_le _, Nat.zero_le _, Nat.zero_le _, Nat.zero_le _, (by intro x hx; cases hx)⟩
theorem wireScript_spec {ms : List Om} {ns : List Int} {T : Nat} (hw : Wd none_ h) (hs : Sl h a (ms.flatMap opC)) (hl : ms.length = l) (hm : ∀ m ∈ ms, OpRo h m ∧ OpOk T m.o) (hn : Sl h b (ns.map i64V)) (hnl : ns.length = l2) (hrng : ∀ n ∈ ns, -9223372036854775808 ≤ n ∧ n < 9223372036854775808) (hT : T ≤ 2305843009213693952) (hb : l ≤ 1256584717421) :
    CallsH Tryd.prog 10 #[.slice a l c, .slice b l2 c2] h (fun v h' => v = .bool true ∧ Ext h h') := by
  refine vf10 _ _ _ _ _ _ h _ ?_
  unfold F10
  have hbig : big = 137438953472 := rfl
  refine CallsH.mono (begun_spec hw) ?_
  rintro _ h2 ⟨rfl, m0⟩
  refine ⟨_, rfl, cond_false rfl ?_⟩
  refine ((St.fresh h).next m0).vnew fun b4 h5 k => ?_
  have start : St none_ h h5 [A.blk b4 (opC ⟨none, 0, none, 0, none, 0, ⟨0, 0, [], noEv, []⟩⟩).toArray 71, BV none 0 0 [], VV none 0 0 [], LE none 0 0 [], TL none 0 0 [], TL none 0 0 []] := by
    have k := (St.lenil (St.tlnil (St.tlnil k)))
    have k : St none_ h h5 (VV none 0 0 [] :: _) := k.vnil 83 (sz := 4) (by omega)
    have k := (k.vnil 5 (sz := 1) (by omega)).re (y := BV none 0 0 []) rfl
    exact k.sel 6 [5, 0, 1, 2, 3, 4] rfl (by decide) (L' := [_, _, _, _, _, _]) (by rfl)
  refine ⟨fun n hh _ aa la ca wa lw cw _ i => ∃ (j : Nat) (m : Om) (ts : List Td), i = j ∧ j ≤ l ∧ n = l - j ∧ lw = la ∧ lw ≤ j ∧ OpOk (T + j) m.o ∧ Good ts ∧ St none_ h hh [A.blk b4 (opC m).toArray 71, BVo m, VVo m, LEo m, TL aa lw ca ts, TL wa lw cw ts],
    ⟨_, 0, ⟨none, 0, none, 0, none, 0, ⟨0, 0, [], noEv, []⟩⟩, [], rfl, by omega, rfl, rfl, by omega, zero_ok _, (fun t ht => by cases ht), start⟩, ?_⟩
  clear start k
  rintro n hh _ _ aa _ ca wa lw cw _ i ⟨j, m, ts, rfl, hj, rfl, rfl, hlw, ok, gd, k⟩
  refine cond_split (fun hc => ?_) (fun hc => ?_)
  rotate_left
  · clear hc ok
    have hl1 := TL.len (k.sel 6 [4, 0, 1, 2, 3, 5] rfl (by decide) (L' := [TL aa lw ca ts, _, _, _, _, _]) (by rfl))
    have kA := k.sel 6 [4, 5, 0, 1, 2, 3] rfl (by decide) (L' := [TL aa lw ca ts, TL wa lw cw ts, _, _, _, _]) (by rfl)
    obtain ⟨xs, hx1, kA⟩ := TL.open kA
    have kB := kA.pull2
    obtain ⟨ys, hy1, kB⟩ := TL.open kB
    have hxl : xs.length = lw := by rw [← hl1, ← hx1, List.length_map]
    have hyl : ys.length = lw := by rw [← hl1, ← hy1, List.length_map]
    refine ⟨fun n h' _ i => ∃ q : Nat, i = q ∧ q ≤ lw ∧ n = lw - q ∧ Ext hh h', ⟨_, 0, rfl, by omega, rfl, .refl _ _⟩, ?_⟩
    rintro n h' _ _ i ⟨q, rfl, hq, rfl, mm⟩
    refine cond_split (fun hc => ?_) (fun hc => ⟨rfl, (k.next mm).ext⟩)
    have hql : q < lw := Int.ofNat_lt.1 (of_decide_eq_true hc)
    refine ((kA.sl (a := aa)).ext mm).row (f := tdC) (fun _ => rfl) (by omega) hxl (by omega) (by omega) fun ad x hx hcx => ⟨_, _, _, hcx 0 _ rfl, _, hcx 1 _ rfl, _, hcx 2 _ rfl, _, _, _, hcx 3 _ rfl, _, hcx 4 _ rfl, ?_⟩
    refine ((kB.sl (a := wa)).ext mm).row (f := tdC) (fun _ => rfl) (by omega) hyl (by omega) (by omega) fun ad y hy hcy => ⟨_, _, _, hcy 0 _ rfl, _, hcy 1 _ rfl, _, hcy 2 _ rfl, _, _, _, hcy 3 _ rfl, _, hcy 4 _ rfl, ?_⟩
    rw [Int.toNat_natCast] at hx hy
    have hxy : x.t = y.t := by
      have h1 : ts[q]? = some x.t := by rw [← hx1, List.getElem?_map, hx]; rfl
      have h2 : ts[q]? = some y.t := by rw [← hy1, List.getElem?_map, hy]; rfl
      rw [h1] at h2
      exact Option.some.inj h2
    have gx := gd x.t (by rw [← hx1]; exact List.mem_map_of_mem (List.mem_of_getElem? hx))
    have gy := gd y.t (by rw [← hy1]; exact List.mem_map_of_mem (List.mem_of_getElem? hy))
    have rx := (td_at kA.drop hx gx.1 gx.2).ext mm
    have ry := (td_at kB.drop hy gy.1 gy.2).ext mm
    refine CallsH.mono (agree_spec rx ry hxy) ?_
    rintro _ h198 ⟨rfl, m2⟩
    exact ⟨_, rfl, cond_false rfl ⟨_, by omega, q + 1, wrap_nat hql (by omega), hql, rfl, mm.then m2⟩⟩
  have hjl : j < l := Int.ofNat_lt.1 (of_decide_eq_true hc)
  clear hc
  refine ⟨fun h' _ aa la ca wa lw cw _ _ _ => ∃ (m : Om) (ts : List Td), lw = la ∧ lw ≤ j + 1 ∧ OpOk (T + (j + 1)) m.o ∧ Good ts ∧ St none_ h h' [A.blk b4 (opC m).toArray 71, BVo m, VVo m, LEo m, TL aa lw ca ts, TL wa lw cw ts], ?_, ?_⟩
  rotate_left
  · clear k ok gd
    rintro h170 _ _ aa _ ca wa lw cw _ _ _ ⟨m, ts, rfl, q1, ok, gd, k⟩
    exact ⟨_, by omega, j + 1, m, ts, wrap_nat hjl (by omega), hjl, rfl, rfl, q1, ok, gd, k⟩
  refine ⟨fun h' => ∃ m : Om, OpOk (T + (j + 1)) m.o ∧ St none_ h h' [A.blk b4 (opC m).toArray 71, BVo m, VVo m, LEo m, TL aa lw ca ts, TL wa lw cw ts], ?_, ?_⟩
  · refine cond_split (fun hc => cond_split (fun hc2 => ?_) (fun _ => ?_)) (fun _ => ?_)
    · have hj2 : j < l2 := Int.ofNat_lt.1 (of_decide_eq_true hc2)
      refine (hn.ext k.ext).one (f := i64V) hnl (by omega) (by omega) fun ad tn htn hct => ⟨_, hct, ?_⟩
      refine cond_split (fun _ => ?_) (fun _ => ?_)
      · refine ⟨_, k.rd (by rfl), _, k.rd (by rfl), _, _, _, k.rd (by rfl), _, k.rd (by rfl), _, k.rd (by rfl), _, _, _, k.rd (by rfl), _, _, _, k.rd (by rfl), ?_⟩
        refine (hn.ext k.ext).one (f := i64V) hnl (by omega) (by omega) fun ad tn2 htn2 hct2 => ⟨_, hct2, ?_⟩
        have hr2 := hrng tn2 (List.mem_of_getElem? htn2)
        have k : St none_ h hh [BVo m, VVo m, LEo m, A.blk b4 (opC m).toArray 71, TL aa lw ca ts, TL wa lw cw ts] := k.sel 6 [1, 2, 3, 0, 4, 5] rfl (by decide) (by rfl)
        obtain ⟨F', G, k1, kG, d, hF, back⟩ := St.frame (L := [BVo m, VVo m, LEo m]) k
        refine CallsH.mono (other_spec k1 ok (by omega) hr2) ?_
        rintro _ h30 ⟨m2, rfl, ok2, k2⟩
        have k : St none_ h h30 [BVo m2, VVo m2, LEo m2, A.blk b4 (opC m).toArray 71, TL aa lw ca ts, TL wa lw cw ts] := back k2
        have k : St none_ h h30 [A.blk b4 (opC m).toArray 71, BVo m2, VVo m2, LEo m2, TL aa lw ca ts, TL wa lw cw ts] := k.sel 6 [3, 0, 1, 2, 4, 5] rfl (by decide) (by rfl)
        exact ⟨_, _, _, _, _, _, _, _, _, _, _, _, _, rfl, k.vall (by rfl) (by rfl) fun h38 k => ⟨m2, ok2, k⟩⟩
      · skip
        refine (hs.ext k.ext).row (f := opC) (fun _ => rfl) (by omega) hl (by omega) (by omega) fun ad x hx hcx => ⟨_, hcx 0 _ rfl, _, hcx 1 _ rfl, _, _, _, hcx 2 _ rfl, _, hcx 3 _ rfl, _, hcx 4 _ rfl, _, _, _, hcx 5 _ rfl, _, _, _, hcx 6 _ rfl, ?_⟩
        rw [Int.toNat_natCast] at hx
        obtain ⟨rx, okx⟩ := hm x (List.mem_of_getElem? hx)
        refine CallsH.mono (alone_spec (rx.ext k.ext) okx) ?_
        rintro _ h48 ⟨m2, rfl, hm2, k2⟩
        have k : St none_ h h48 [BVo m2, VVo m2, LEo m2, A.blk b4 (opC m).toArray 71, BVo m, VVo m, LEo m, TL aa lw ca ts, TL wa lw cw ts] := k.add k2
        have k := (k.sel 9 [4, 5, 6, 3, 0, 1, 2, 7, 8] rfl (by decide) (L' := [_, _, _, A.blk b4 (opC m).toArray 71, BVo m2, VVo m2, LEo m2, TL aa lw ca ts, TL wa lw cw ts]) (by rfl)).drop.drop.drop
        exact ⟨_, _, _, _, _, _, _, _, _, _, _, _, _, rfl, k.vall (by rfl) (by rfl) fun h26 k => ⟨m2, by rw [hm2]; exact okx.mono (by omega), k⟩⟩
    · skip
      refine (hs.ext k.ext).row (f := opC) (fun _ => rfl) (by omega) hl (by omega) (by omega) fun ad x hx hcx => ⟨_, hcx 0 _ rfl, _, hcx 1 _ rfl, _, _, _, hcx 2 _ rfl, _, hcx 3 _ rfl, _, hcx 4 _ rfl, _, _, _, hcx 5 _ rfl, _, _, _, hcx 6 _ rfl, ?_⟩
      rw [Int.toNat_natCast] at hx
      obtain ⟨rx, okx⟩ := hm x (List.mem_of_getElem? hx)
      refine CallsH.mono (alone_spec (rx.ext k.ext) okx) ?_
      rintro _ h48 ⟨m2, rfl, hm2, k2⟩
      have k : St none_ h h48 [BVo m2, VVo m2, LEo m2, A.blk b4 (opC m).toArray 71, BVo m, VVo m, LEo m, TL aa lw ca ts, TL wa lw cw ts] := k.add k2
      have k := (k.sel 9 [4, 5, 6, 3, 0, 1, 2, 7, 8] rfl (by decide) (L' := [_, _, _, A.blk b4 (opC m).toArray 71, BVo m2, VVo m2, LEo m2, TL aa lw ca ts, TL wa lw cw ts]) (by rfl)).drop.drop.drop
      exact ⟨_, _, _, _, _, _, _, _, _, _, _, _, _, rfl, k.vall (by rfl) (by rfl) fun h26 k => ⟨m2, by rw [hm2]; exact okx.mono (by omega), k⟩⟩
    · skip
      refine (hs.ext k.ext).row (f := opC) (fun _ => rfl) (by omega) hl (by omega) (by omega) fun ad x hx hcx => ⟨_, hcx 0 _ rfl, _, hcx 1 _ rfl, _, _, _, hcx 2 _ rfl, _, hcx 3 _ rfl, _, hcx 4 _ rfl, _, _, _, hcx 5 _ rfl, _, _, _, hcx 6 _ rfl, ?_⟩
      rw [Int.toNat_natCast] at hx
      obtain ⟨rx, okx⟩ := hm x (List.mem_of_getElem? hx)
      refine CallsH.mono (alone_spec (rx.ext k.ext) okx) ?_
      rintro _ h48 ⟨m2, rfl, hm2, k2⟩
      have k : St none_ h h48 [BVo m2, VVo m2, LEo m2, A.blk b4 (opC m).toArray 71, BVo m, VVo m, LEo m, TL aa lw ca ts, TL wa lw cw ts] := k.add k2
      have k := (k.sel 9 [4, 5, 6, 3, 0, 1, 2, 7, 8] rfl (by decide) (L' := [_, _, _, A.blk b4 (opC m).toArray 71, BVo m2, VVo m2, LEo m2, TL aa lw ca ts, TL wa lw cw ts]) (by rfl)).drop.drop.drop
      exact ⟨_, _, _, _, _, _, _, _, _, _, _, _, _, rfl, k.vall (by rfl) (by rfl) fun h26 k => ⟨m2, by rw [hm2]; exact okx.mono (by omega), k⟩⟩
  clear k ok
  clear m
  rintro h93 _ ⟨m, ok, k⟩
  refine ⟨_, k.rd (by rfl), _, k.rd (by rfl), _, _, _, k.rd (by rfl), _, k.rd (by rfl), _, k.rd (by rfl), _, _, _, k.rd (by rfl), _, _, _, k.rd (by rfl), ?_⟩
  refine CallsH.mono (ran_spec (hw.in k) (op_ro k.drop ok) ok) ?_
  rintro _ h103 ⟨t1, rfl, ht1, k2⟩
  have k : St none_ h h103 [BVt t1, LEt t1, A.blk b4 (opC m).toArray 71, BVo m, VVo m, LEo m, TL aa lw ca ts, TL wa lw cw ts] := k.add k2
  refine ⟨_, _, _, _, _, _, _, _, _, rfl, k.vnew fun b109 h110 k => k.vall (by rfl) (by rfl) fun h111 k => ⟨_, k.rd (by rfl), _, k.rd (by rfl), _, _, _, k.rd (by rfl), _, k.rd (by rfl), _, k.rd (by rfl), _, _, _, k.rd (by rfl), _, _, _, k.rd (by rfl), ?_⟩⟩
  refine CallsH.mono (meant_spec (op_ro k.drop.drop.drop.drop ok) ok) ?_
  rintro _ h120 ⟨t2, rfl, ht2, k2⟩
  have k : St none_ h h120 [BVt t2, LEt t2, A.blk b109 (tdC t1).toArray 75, BVt t1, LEt t1, A.blk b4 (opC m).toArray 71, BVo m, VVo m, LEo m, TL aa lw ca ts, TL wa lw cw ts] := k.add k2
  refine ⟨_, _, _, _, _, _, _, _, _, rfl, k.vnew fun b126 h127 k => k.vall (by rfl) (by rfl) fun h128 k => ⟨_, _, _, k.rd (by rfl), _, k.rd (by rfl), _, k.rd (by rfl), _, _, _, k.rd (by rfl), _, k.rd (by rfl), _, _, _, k.rd (by rfl), _, k.rd (by rfl), _, k.rd (by rfl), _, _, _, k.rd (by rfl), _, k.rd (by rfl), ?_⟩⟩
  have k : St none_ h h128 [A.blk b126 (tdC t2).toArray 75, BVt t2, LEt t2, A.blk b109 (tdC t1).toArray 75, BVt t1, LEt t1, A.blk b4 (opC m).toArray 71, BVo m, VVo m, LEo m, TL aa lw ca ts, TL wa lw cw ts] := k
  have r1 := td_two k.drop.drop.drop.drop ht1
  have r2 := td_two k.drop ht2
  refine CallsH.mono (agree_spec r1 r2 (ht1.trans ht2.symm)) ?_
  rintro _ h140 ⟨rfl, m2⟩
  have k := k.next m2
  refine ⟨_, rfl, cond_false rfl (cond_split (fun _ => ?_) (fun _ => ?_))⟩
  rotate_left
  · refine ⟨m, ts, rfl, by omega, ok, gd, ?_⟩
    exact k.drop.drop.drop.drop.drop.drop
  refine ⟨_, _, _, k.rd (by rfl), _, k.rd (by rfl), _, k.rd (by rfl), _, _, _, k.rd (by rfl), _, k.rd (by rfl), k.vnew fun b147 h148 k => ?_⟩
  have k : St none_ h h148 [TL aa lw ca ts, A.blk b147 (tdC t1).toArray 75, BVt t1, LEt t1, A.blk b126 (tdC t2).toArray 75, BVt t2, LEt t2, A.blk b109 (tdC t1).toArray 75, A.blk b4 (opC m).toArray 71, BVo m, VVo m, LEo m, TL wa lw cw ts] :=
    k.sel 13 [11, 0, 5, 6, 1, 2, 3, 4, 7, 8, 9, 10, 12] rfl (by decide) (by rfl)
  have hl1 := TL.len k
  obtain ⟨xs, hx1, k⟩ := TL.open k
  have hxl : xs.length = lw := by rw [← hl1, ← hx1, List.length_map]
  refine app_tdO (k.pull4.pull4.pull4) (by omega) fun a151 c151 h150 k => ⟨_, _, _, rfl, _, _, _, k.rd (by rfl), _, k.rd (by rfl), _, k.rd (by rfl), _, _, _, k.rd (by rfl), _, k.rd (by rfl), k.vnew fun b157 h158 k => ?_⟩
  have k : St none_ h h158 [A.blk b157 (tdC t2).toArray 75, BVt t2, LEt t2, TL wa lw cw ts, A.vec 75 5 a151 (lw + 1) c151 ((xs ++ [t1]).flatMap tdC), A.all ((xs ++ [t1]).map TdA), A.blk b109 (tdC t1).toArray 75, A.blk b126 (tdC t2).toArray 75, A.blk b4 (opC m).toArray 71, BVo m, VVo m, LEo m] :=
    k.sel 12 [0, 4, 5, 11, 1, 2, 6, 3, 7, 8, 9, 10] rfl (by decide) (by rfl)
  refine app_td k (by omega) fun a161 c161 h160 k => ⟨_, _, _, rfl, _, _, _, k.rd (by rfl), _, k.rd (by rfl), _, k.rd (by rfl), _, _, _, k.rd (by rfl), _, k.rd (by rfl), ?_⟩
  have g1 := gd.add (o := m.o) ht1
  have gt := g1 t1.t (List.mem_append_right _ (List.mem_singleton.2 rfl))
  have rt : TdRo h160 t1 := td_at (k.drop.drop) (i := xs.length) (xs := xs ++ [t1]) (by simp) gt.1 gt.2
  refine CallsH.mono (weight_spec rt) ?_
  rintro _ h168 ⟨n, rfl, m3⟩
  have k := k.next m3
  refine ⟨_, rfl, m, ts ++ [t1.t], rfl, by omega, ok, g1, ?_⟩
  have e : t2.t = t1.t := ht2.trans ht1.symm
  rw [e] at k
  have k := k.sel 9 [1, 2, 0, 5, 6, 7, 8, 3, 4] rfl (by decide) (L' := [A.vec 75 5 a151 (lw + 1) c151 ((xs ++ [t1]).flatMap tdC), A.all ((xs ++ [t1]).map TdA), _, _, _, _, _, _, _]) (by rfl)
  have k := TL.close (xs := xs ++ [t1]) (ts := ts ++ [t1.t]) (by rw [List.map_append, hx1]; rfl) k
  exact (k.sel 8 [6, 7, 2, 3, 4, 5, 0, 1] rfl (by decide) (L' := [_, _, _, _, _, _, _, _]) (by rfl)).drop.drop
end Go.Proofs.YtofaihacmoacjaaDoor.F
