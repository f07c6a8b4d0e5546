/- The document writes a reply. Conditions: none. -/
import Derived.Test.YtgdgebmlcgohhaaGreatDoorDF
namespace Go.Proofs.YtgdgebmlcgohhaaGreatDoor.F
open Go Go.VC Go.Proofs
set_option linter.unusedSimpArgs false
set_option linter.unusedVariables false
set_option maxRecDepth 100000
attribute [local irreducible] CallsH RunsTo PureTo

variable {S F G : Nat → Prop} {h0 h h1 : Heap} {L R L' : List A} {a b a1 a2 x ga ha na ra : Option Addr} {l c l1 c1 l2 c2 p t b1 lx cx gc hc nc rc : Nat} {bs cs bs1 bs2 w xs : List UInt8} {err e1 : Int} {v : Val} {bad bad1 bad2 : Bool} {q : Rp}
theorem loopD {x y : Bool} {STEP REST : Prop} (step : x = true → y = true → STEP) (rest : x = false ∨ y = false → REST) : cond x (cond y STEP REST) REST := by
  cases x
  · exact rest (.inl rfl)
  · cases y
    · exact rest (.inr rfl)
    · exact step rfl rfl
theorem hits_bad {y : Hi} (hy : y ∈ q.hits) (h : y.row.all validV = false) : tellR q = ([], 12) := by
  refine if_pos ?_
  unfold soundP
  have : (q.hits.all fun x => x.row.all validV) = false := by rw [List.all_eq_false]; exact ⟨y, hy, by rw [h]; simp⟩
  rw [this]; rfl
theorem rows_bad {y : List Val} (hy : y ∈ q.rows) (h : y.all validV = false) : tellR q = ([], 12) := by
  refine if_pos ?_
  unfold soundP
  have : (q.rows.all fun r => r.all validV) = false := by rw [List.all_eq_false]; exact ⟨y, hy, by rw [h]; simp⟩
  rw [this, Bool.and_false]
theorem all_go {α : Type} {f : α → Bool} {xs : List α} {j : Nat} {x : α} (h : ∀ y ∈ xs.take j, f y = true) (hj : xs[j]? = some x) (hx : f x = true) : ∀ y ∈ xs.take (j + 1), f y = true := by
  intro y hy
  rw [take_next hj] at hy
  rcases List.mem_append.1 hy with hy | hy
  · exact h y hy
  · obtain rfl := List.mem_singleton.1 hy; exact hx
set_option maxHeartbeats 4000000 in
theorem dtell_spec (ok : RpOk q) (r : RpRo none_ h q ga ha na ra) : CallsH Tryz.prog 34 #[aggP q ga gc ha hc na nc ra rc] h
    (fun v h' => ∃ x c, v = .tuple #[.slice x (tellR q).1.length c, .int .i64 (tellR q).2] ∧ St none_ h h' [BV x (tellR q).1.length c (tellR q).1]) := by
  refine vf34 _ _ _ _ _ _ _ _ _ _ _ _ _ _ _ _ _ _ _ _ h _ ?_
  unfold F34
  have hbig := ok.big
  have hid := ok.id
  simp only [putW, List.length_append] at hbig
  have out : ∀ {h' : Heap}, Ext h h' → tellR q = ([], 12) → ∃ x c, (Value.tuple #[.slice none 0 0, .int .i64 12]) = .tuple #[.slice x (tellR q).1.length c, .int .i64 (tellR q).2] ∧ St none_ h h' [BV x (tellR q).1.length c (tellR q).1] := fun m he => by
    rw [he]; exact ⟨none, 0, rfl, ((St.fresh h).next m).vnil 5 (sz := 1) (by omega)⟩
  have k := St.fresh h
  refine k.vnew fun b1 h2 k => ⟨_, k.rd (by rfl), ?_⟩
  have k : St none_ h h2 [A.blk b1 (rpV q ga gc ha hc na nc ra rc).toArray 65] := k
  refine CallsH.mono (dtru_spec _) ?_
  rintro _ h5 ⟨a6, rfl, kd⟩
  have k := k.add1 kd
  refine ⟨_, _, _, rfl, _, k.rd (by rfl), ?_⟩
  rw [wrap_id (by omega) (by omega)]
  refine CallsH.mono (dfour_spec (n := q.id) ok.id) ?_
  rintro _ h9 ⟨a10, rfl, kd⟩
  have k := (k.add1 kd).pull1
  refine ⟨_, _, _, rfl, app_bytes (s := be4 q.id) k (k.sl (a := a10)) (by show 1 + 4 ≤ 140737488355328; omega) fun a13 c13 h12 k => ⟨_, _, _, rfl, ?_⟩⟩
  have k := (k.sel 3 [0, 2, 1] rfl (by decide) (L' := [BV a13 (1 + (be4 q.id).length) c13 (truB q.note ++ be4 q.id), A.blk b1 (rpV q ga gc ha hc na nc ra rc).toArray 65, _]) (by rfl)).only2
  have e0 : 1 + (be4 q.id).length = (truB q.note ++ be4 q.id).length := rfl
  rw [e0] at k ⊢
  have t1 : (truB q.note).length = 1 := rfl
  have t2 : (truB q.over).length = 1 := rfl
  have t4 : (be4 q.id).length = 4 := rfl
  refine ⟨_, k.rd (by rfl), CallsH.mono (dnum_spec ok.err) ?_⟩
  rintro _ h16 ⟨a17, c17, rfl, kd⟩
  have k := (k.add1 kd).pull1
  refine ⟨_, _, _, rfl, app_bytes k (k.sl (a := a17)) (by simp only [List.length_append]; omega) fun a20 c20 h19 k => ⟨_, _, _, rfl, ?_⟩⟩
  rw [← List.length_append] at k ⊢
  have k := (k.sel 3 [0, 2, 1] rfl (by decide) (L' := [_, _, _]) (by rfl)).only2
  refine ⟨_, k.rd (by rfl), CallsH.mono (dnum_spec ok.at_) ?_⟩
  rintro _ h23 ⟨a24, c24, rfl, kd⟩
  have k := (k.add1 kd).pull1
  refine ⟨_, _, _, rfl, app_bytes k (k.sl (a := a24)) (by simp only [List.length_append]; omega) fun a27 c27 h26 k => ⟨_, _, _, rfl, ?_⟩⟩
  rw [← List.length_append] at k ⊢
  have k := (k.sel 3 [0, 2, 1] rfl (by decide) (L' := [_, _, _]) (by rfl)).only2
  have he := flat_ge (p := putN) (P := fun _ => True) (fun y _ => putN_pos y) (xs := q.errs) fun _ _ => trivial
  have hpe : (putL putN q.errs).length = (putN q.errs.length).length + (q.errs.flatMap putN).length := by unfold putL; rw [List.length_append]
  have hh := flat_ge (p := putHW) (P := fun _ => True) (fun y _ => by unfold putHW; have := putS_pos y.q; rw [List.length_append]; omega) (xs := q.hits) fun _ _ => trivial
  have hph : (putL putHW q.hits).length = (putN q.hits.length).length + (q.hits.flatMap putHW).length := by unfold putL; rw [List.length_append]
  have hr := flat_ge (p := putL encW) (P := fun _ => True) (fun y _ => putL_pos _ y) (xs := q.rows) fun _ _ => trivial
  have hpr : (putL (putL encW) q.rows).length = (putN q.rows.length).length + (q.rows.flatMap (putL encW)).length := by unfold putL; rw [List.length_append]
  refine ⟨_, _, _, k.rd (by rfl), CallsH.mono (dnum_spec (n := (q.errs.length : Int)) ⟨by omega, by omega⟩) ?_⟩
  rintro _ h30 ⟨a31, c31, rfl, kd⟩
  have k := (k.add1 kd).pull1
  refine ⟨_, _, _, rfl, app_bytes k (k.sl (a := a31)) (by simp only [List.length_append]; omega) fun a34 c34 h33 k => ⟨_, _, _, rfl, ?_⟩⟩
  rw [← List.length_append] at k ⊢
  have k := (k.sel 3 [0, 2, 1] rfl (by decide) (L' := [_, _, _]) (by rfl)).only2
  generalize hW1 : truB q.note ++ be4 q.id ++ putN q.err ++ putN q.at_ = W1 at *
  have hl1 : W1.length = 5 + (putN q.err).length + (putN q.at_).length := by rw [← hW1]; simp only [List.length_append]; omega
  have k := SW.close (.refl _) rfl k
  refine ⟨fun m h' b ll cc i => ∃ j : Nat, i = j ∧ j ≤ q.errs.length ∧ m = q.errs.length - j ∧ St none_ h h' [SW (W1 ++ putN q.errs.length ++ (q.errs.take j).flatMap putN) b ll cc, A.blk b1 (rpV q ga gc ha hc na nc ra rc).toArray 65], ⟨_, 0, rfl, Nat.zero_le _, rfl, by rw [List.take_zero, List.flatMap_nil, List.append_nil]; exact k⟩, ?_⟩
  clear k
  rintro m h37 _ b39 l39 c39 i ⟨j, rfl, hj, rfl, k⟩
  refine ⟨_, _, _, k.rd (by rfl), loopD (fun h1 h2 => ?_) (fun hend => ?_)⟩
  · have hjl : j < q.errs.length := Int.ofNat_lt.1 (of_decide_eq_true h1)
    have hle2 : l39 ≤ 65528 := by have : (l39 : Int) ≤ 65528 := of_decide_eq_true h2; omega
    obtain ⟨y, hs, hl, k⟩ := SW.open k
    have e := hs.full (by omega)
    subst e
    refine ⟨_, _, _, k.rd (by rfl), ?_⟩
    refine r.errs.one k.ext (by omega) (by omega) fun ad z hz hcz hrd => ⟨_, hcz 0 _ rfl, ?_⟩
    rw [Int.toNat_natCast] at hz
    have hle : ((q.errs.take j).flatMap putN).length + (putN z).length ≤ (q.errs.flatMap putN).length := flat_take_le (f := putN) hz
    refine CallsH.mono (dnum_spec (ok.errs z (List.mem_of_getElem? hz))) ?_
    rintro _ h47 ⟨a48, c48, rfl, kd⟩
    have k := (k.add1 kd).pull1
    refine ⟨_, _, _, rfl, app_bytes k (k.sl (a := a48)) (by omega) fun a51 c51 h50 k => ⟨_, _, _, rfl, q.errs.length - (j + 1), by omega, j + 1, wrap_nat hjl (by omega), hjl, rfl, ?_⟩⟩
    have k := (k.sel 3 [0, 2, 1] rfl (by decide) (L' := [_, _, _]) (by rfl)).only2
    rw [flat_next hz, ← List.append_assoc]
    exact SW.close (.refl _) (by rw [List.length_append, hl]; rfl) k
  have k : St none_ h h37 [SW (W1 ++ putL putN q.errs) b39 l39 c39, A.blk b1 (rpV q ga gc ha hc na nc ra rc).toArray 65] := by
    obtain ⟨y, hs, hl, k⟩ := SW.open k
    have ew : W1 ++ putL putN q.errs = W1 ++ putN q.errs.length ++ q.errs.flatMap putN := by unfold putL; rw [List.append_assoc]
    rw [ew]
    rcases hend with h1 | h1
    · have : ¬ (j : Int) < q.errs.length := of_decide_eq_false h1
      rw [List.take_of_length_le (by omega)] at hs
      exact SW.close hs hl k
    · have : ¬ (l39 : Int) ≤ 65528 := of_decide_eq_false h1
      have e2 : q.errs.flatMap putN = (q.errs.take j).flatMap putN ++ (q.errs.drop j).flatMap putN := by rw [← List.flatMap_append, List.take_append_drop]
      rw [e2, ← List.append_assoc]
      exact SW.close (hs.more (by omega) _) hl k
  clear hend hj
  unfold G34
  refine ⟨_, _, _, k.rd (by rfl), num_go k ⟨by omega, by omega⟩ (by rw [List.length_append]; omega) fun a58 l58 c58 h57 k => ?_⟩
  generalize hW2 : W1 ++ putL putN q.errs = W2 at *
  have hl2 : W2.length = W1.length + (putL putN q.errs).length := by rw [← hW2, List.length_append]
  refine ⟨fun m h' _ _ _ _ b ll cc i => ∃ j : Nat, i = j ∧ j ≤ q.hits.length ∧ m = q.hits.length - j ∧ (∀ y ∈ q.hits.take j, y.row.all validV = true) ∧ St none_ h h' [SW (W2 ++ putN q.hits.length ++ (q.hits.take j).flatMap putHW) b ll cc, A.blk b1 (rpV q ga gc ha hc na nc ra rc).toArray 65], ⟨_, 0, rfl, Nat.zero_le _, rfl, by simp, by rw [List.take_zero, List.flatMap_nil, List.append_nil]; exact k⟩, ?_⟩
  clear k
  rintro m h61 _ y63 ly63 cy63 y64 b65 l65 c65 i ⟨j, rfl, hj, rfl, hall, k⟩
  refine ⟨_, _, _, k.rd (by rfl), cond_split (fun hc => ?_) (fun hc => ?_)⟩
  · have hjl : j < q.hits.length := Int.ofNat_lt.1 (of_decide_eq_true hc)
    refine ⟨_, _, _, k.rd (by rfl), ?_⟩
    refine r.hits.one k.ext (by omega) (by omega) fun ad z hz hcz hrd => ⟨_, _, _, hcz 1 _ rfl, ?_⟩
    rw [Int.toNat_natCast] at hz
    have hzm := List.mem_of_getElem? hz
    have hle : ((q.hits.take j).flatMap putHW).length + (putHW z.x).length ≤ (q.hits.flatMap putHW).length := flat_take_le (f := putHW) hz
    have hzl : (putHW z.x).length = (putS z.x.q).length + (putL encW z.x.row).length := by unfold putHW; rw [List.length_append]
    have hzv : z.x.row.length ≤ (putL encW z.x.row).length := by
      have := flat_ge (p := encW) (P := fun _ => True) (fun y _ => by unfold encW; rw [List.length_cons]; omega) (xs := z.x.row) fun _ _ => trivial
      unfold putL; rw [List.length_append]; omega
    refine CallsH.mono (dsound_spec (ts := z.x.row) (hrd.mod k.ext).sl rfl (by omega)) ?_
    rintro _ h73 ⟨rfl, m2⟩
    have k := k.next m2
    refine ⟨_, rfl, ?_⟩
    cases hv : z.x.row.all validV
    · exact cond_true rfl (out k.ext (hits_bad hzm hv))
    refine cond_false rfl ⟨_, _, _, k.rd (by rfl), ?_⟩
    refine r.hits.one k.ext (by omega) (by omega) fun ad2 z2 hz2 hcz2 hrd2 => ⟨_, hcz2 0 _ rfl, ?_⟩
    rw [Int.toNat_natCast] at hz2
    have e2 : z2.x = z.x := Option.some.inj (hz2.symm.trans hz)
    rw [e2]
    refine tex_go k (by simp only [List.length_append]; omega) fun a80 l80 c80 h79 k => ⟨_, _, _, k.rd (by rfl), ?_⟩
    refine r.hits.one k.ext (by omega) (by omega) fun ad3 z3 hz3 hcz3 hrd3 => ⟨_, _, _, hcz3 1 _ rfl, ?_⟩
    rw [Int.toNat_natCast] at hz3
    have e3 : z3.x = z.x := Option.some.inj (hz3.symm.trans hz)
    have hrd3 : Ro none_ h z3.a (z3.x.row.flatMap valV) := hrd3
    rw [e3] at hrd3 ⊢
    refine vals_go k hrd3 rfl (ok.hits _ hzm) (by simp only [List.length_append]; omega) fun a86 l86 c86 h85 k => ⟨q.hits.length - (j + 1), by omega, j + 1, wrap_nat hjl (by omega), hjl, rfl, all_go hall hz hv, ?_⟩
    rw [flat_next hz]
    unfold putHW
    simp only [List.append_assoc] at k ⊢
    exact k
  have hjl : j = q.hits.length := by
    have : ¬ (j : Int) < q.hits.length := of_decide_eq_false hc
    omega
  subst hjl
  rw [List.take_of_length_le (Nat.le_refl _)] at k hall
  clear hc hj
  have ew : W2 ++ putN q.hits.length ++ q.hits.flatMap putHW = W2 ++ putL putHW q.hits := by unfold putL; rw [List.append_assoc]
  rw [ew] at k
  refine ⟨_, _, _, k.rd (by rfl), texs_go k r.names (by rw [List.length_append]; omega) fun a90 l90 c90 h89 k => ?_⟩
  refine ⟨_, _, _, k.rd (by rfl), num_go k ⟨by omega, by omega⟩ (by simp only [List.length_append]; omega) fun a97 l97 c97 h96 k => ?_⟩
  generalize hW3 : W2 ++ putL putHW q.hits ++ putL putS q.names = W3 at *
  have hl3 : W3.length = W2.length + (putL putHW q.hits).length + (putL putS q.names).length := by rw [← hW3]; simp only [List.length_append]
  refine ⟨fun m h' _ _ _ _ b ll cc i => ∃ j : Nat, i = j ∧ j ≤ q.rows.length ∧ m = q.rows.length - j ∧ (∀ y ∈ q.rows.take j, y.all validV = true) ∧ St none_ h h' [SW (W3 ++ putN q.rows.length ++ (q.rows.take j).flatMap (putL encW)) b ll cc, A.blk b1 (rpV q ga gc ha hc na nc ra rc).toArray 65], ⟨_, 0, rfl, Nat.zero_le _, rfl, by simp, by rw [List.take_zero, List.flatMap_nil, List.append_nil]; exact k⟩, ?_⟩
  clear k
  rintro m h100 _ y102 ly102 cy102 y103 b104 l104 c104 i ⟨j, rfl, hj, rfl, hall2, k⟩
  refine ⟨_, _, _, k.rd (by rfl), cond_split (fun hc => ?_) (fun hc => ?_)⟩
  · have hjl : j < q.rows.length := Int.ofNat_lt.1 (of_decide_eq_true hc)
    refine ⟨_, _, _, k.rd (by rfl), ?_⟩
    refine r.rows.one k.ext (by omega) (by omega) fun ad z hz hcz hrd => ⟨_, _, _, hcz 0 _ rfl, ?_⟩
    rw [Int.toNat_natCast] at hz
    have hzm := List.mem_of_getElem? hz
    have hle : ((q.rows.take j).flatMap (putL encW)).length + (putL encW z.vs).length ≤ (q.rows.flatMap (putL encW)).length := flat_take_le (f := putL encW) hz
    have hzv : z.vs.length ≤ (putL encW z.vs).length := by
      have := flat_ge (p := encW) (P := fun _ => True) (fun y _ => by unfold encW; rw [List.length_cons]; omega) (xs := z.vs) fun _ _ => trivial
      unfold putL; rw [List.length_append]; omega
    refine CallsH.mono (dsound_spec (ts := z.vs) (hrd.mod k.ext).sl rfl (by omega)) ?_
    rintro _ h112 ⟨rfl, m2⟩
    have k := k.next m2
    refine ⟨_, rfl, ?_⟩
    cases hv : z.vs.all validV
    · exact cond_true rfl (out k.ext (rows_bad hzm hv))
    refine cond_false rfl ⟨_, _, _, k.rd (by rfl), ?_⟩
    refine r.rows.one k.ext (by omega) (by omega) fun ad3 z3 hz3 hcz3 hrd3 => ⟨_, _, _, hcz3 0 _ rfl, ?_⟩
    rw [Int.toNat_natCast] at hz3
    have e3 : z3.vs = z.vs := Option.some.inj (hz3.symm.trans hz)
    have hrd3 : Ro none_ h z3.a (z3.vs.flatMap valV) := hrd3
    rw [e3] at hrd3 ⊢
    refine vals_go k hrd3 rfl (ok.rows _ hzm) (by simp only [List.length_append]; omega) fun a86 l86 c86 h85 k => ⟨q.rows.length - (j + 1), by omega, j + 1, wrap_nat hjl (by omega), hjl, rfl, all_go hall2 hz hv, ?_⟩
    rw [flat_next hz, ← List.append_assoc]
    exact k
  have hjl : j = q.rows.length := by
    have : ¬ (j : Int) < q.rows.length := of_decide_eq_false hc
    omega
  subst hjl
  rw [List.take_of_length_le (Nat.le_refl _)] at k hall2
  clear hc hj
  have ew3 : W3 ++ putN q.rows.length ++ q.rows.flatMap (putL encW) = W3 ++ putL (putL encW) q.rows := by rw [List.append_assoc]; rfl
  rw [ew3] at k
  refine ⟨_, k.rd (by rfl), num_go k ok.since (by simp only [List.length_append]; omega) fun _ _ _ _ k => ?_⟩
  refine ⟨_, k.rd (by rfl), num_go k ok.open_ (by simp only [List.length_append]; omega) fun _ _ _ _ k => ?_⟩
  refine ⟨_, k.rd (by rfl), num_go k ok.nodes (by simp only [List.length_append]; omega) fun _ _ _ _ k => ?_⟩
  refine ⟨_, k.rd (by rfl), tru_go k (by simp only [List.length_append]; omega) fun a152 l152 c152 _ k => ?_⟩
  have eW : W3 ++ putL (putL encW) q.rows ++ putN q.since ++ putN q.open_ ++ putN q.nodes ++ truB q.over = putW q := by
    rw [← hW3, ← hW2, ← hW1]
    unfold putW
    simp only [List.append_assoc]
  rw [eW] at k
  have eR : tellR q = if 65528 < (putW q).length then ([], 2) else (putW q, 0) := by
    refine if_neg ?_
    unfold soundP
    rw [List.all_eq_true.2 hall, List.all_eq_true.2 hall2]
    simp
  rw [eR]
  obtain ⟨bb, hs, hl, k⟩ := SW.open k
  have hlen := hs.len
  refine cond_split (fun hc => ?_) (fun hc => ?_)
  · have hc : 65528 < l152 := by
      have : (l152 : Int) > 65528 := of_decide_eq_true hc
      omega
    rw [if_pos (by omega)]
    exact ⟨none, 0, rfl, ((St.fresh h).next k.ext).vnil 5 (sz := 1) (by omega)⟩
  · have hc : ¬ 65528 < l152 := by
      have : ¬ (l152 : Int) > 65528 := of_decide_eq_false hc
      omega
    have e := hs.full (by omega)
    subst e
    rw [if_neg (by omega)]
    subst hl
    exact ⟨a152, c152, rfl, k.only⟩
end Go.Proofs.YtgdgebmlcgohhaaGreatDoor.F
