/- A reply's tale is as it was made. Conditions: none. -/
import Derived.Test.YtgdgebmlcgohhaaGreatDoorDL
namespace Go.Proofs.YtgdgebmlcgohhaaGreatDoor.F
open Go Go.VC Go.Proofs
set_option linter.unusedSimpArgs false
set_option linter.unusedVariables false
set_option maxRecDepth 100000
attribute [local irreducible] CallsH RunsTo PureTo

variable {S F G : Nat → Prop} {h0 h h1 : Heap} {L R L' : List A} {a x ga ha na ra ea te tn th tr tv : Option Addr} {l c b n gc hc nc rc ec ce cn ch cr cv : Nat} {vs : List Value} {u : Rp}
theorem Ro.cell (k : Ro F h (some ⟨b, 0, none⟩) vs) {j : Nat} {v : Value} (hj : vs[j]? = some v) : cellH h ⟨b, 0 + j, none⟩ = some v := by
  obtain ⟨ad, e, q, _⟩ := k j v hj
  cases e
  rw [VC.add_plain] at q
  exact q
theorem Ta.at (k : Ta h u b te ce tn cn th ch tr cr tv cv) (m : Ext h h1) : Ta h1 u b te ce tn cn th ch tr cr tv cv := by
  have hf : ∀ b, none_ b → False ∨ h.size ≤ b := fun _ h => h.elim
  obtain ⟨k1, c1, c2, c3, c4, k2, k3, s1, s2, ms, e1, e2, e3, k4, k5, k6, k7, k8⟩ := k
  exact ⟨k1.at m hf, c1, c2, c3, c4, k2.at m hf, k3.at m hf, s1, s2, ms, e1, e2, e3, k4.at m hf, k5.at m hf, k6.at m hf, fun s hs => ⟨(k7 s hs).1.at m hf, (k7 s hs).2⟩, fun b hb => (k8 b hb).at m hf⟩
theorem zip_len {es : List Hi} {ss : List Sw} (h : ss.length = es.length) : (List.zipWith h3 es ss).length = es.length := by
  rw [List.length_zipWith, h, Nat.min_self]
/-- A tale's parts are the reply's. -/
theorem Ta.ro (k : Ta h u b te ce tn cn th ch tr cr tv cv) : RpRo none_ h u te th tn tr := by
  obtain ⟨k1, c1, c2, c3, c4, k2, k3, s1, s2, ms, e1, e2, e3, k4, k5, k6, k7, k8⟩ := k
  refine ⟨err_of (by rw [List.map_append] at k2; exact k2.pre) rfl, ?_, tex_of (by rw [List.map_append] at k3; exact k3.pre) rfl, ?_⟩
  · rw [List.flatMap_append] at k4
    have key : ∀ (es : List Hi) (ss : List Sw), ss.map (·.vs) = es.map (·.row) → ∃ us : List Sx, (List.zipWith h3 es ss).flatMap hC = us.flatMap sxV ∧ us.map (·.x) = es ∧ ∀ x ∈ us, ∃ s ∈ ss, x.a = s.a ∧ x.x.row = s.vs := fun es => by
      induction es with
      | nil => intro ss h; cases ss with
        | nil => exact ⟨[], rfl, rfl, fun x hx => by cases hx⟩
        | cons s ss => cases h
      | cons y es ih =>
        intro ss h
        cases ss with
        | nil => cases h
        | cons s ss =>
          simp only [List.map_cons, List.cons.injEq] at h
          obtain ⟨us, u1, u2, u3⟩ := ih ss h.2
          refine ⟨⟨s.a, y.row.length + 12, y⟩ :: us, ?_, ?_, ?_⟩
          · rw [List.zipWith_cons_cons, List.flatMap_cons, List.flatMap_cons, u1]; rfl
          · rw [List.map_cons, u2]
          · intro x hx
            rcases List.mem_cons.1 hx with rfl | hx
            · exact ⟨s, by simp, rfl, h.1.symm⟩
            · obtain ⟨s', hs', e⟩ := u3 x hx
              exact ⟨s', by simp [hs'], e⟩
    obtain ⟨us, u1, u2, u3⟩ := key u.hits s1 e1
    refine ⟨us, by rw [← u1]; exact k4.pre, fun x hx => ?_, u2, rfl⟩
    obtain ⟨s, hs, ea, ev⟩ := u3 x hx
    have := (k7 s (by simp [hs])).1
    rw [List.flatMap_append] at this
    show Ro none_ h x.a (x.x.row.flatMap valV)
    rw [ea, ev]; exact this.pre
  · refine ⟨s2.map fun s => ⟨s.a, s.vs.length + 12, s.vs⟩, ?_, fun x hx => ?_, ?_, rfl⟩
    · have e : (s2.map fun s => (⟨s.a, s.vs.length + 12, s.vs⟩ : Sr)).flatMap rowE.cells = s2.flatMap rC := by
        clear e2 k5 k6 k7
        induction s2 with
        | nil => rfl
        | cons y ys ih => rw [List.map_cons, List.flatMap_cons, List.flatMap_cons, ih]; rfl
      rw [e]; exact k5.pre
    · obtain ⟨s, hs, rfl⟩ := List.mem_map.1 hx
      have := (k7 s (by simp [hs])).1
      rw [List.flatMap_append] at this
      exact this.pre
    · rw [List.map_map, ← e2]; rfl
/-- A row's cell. -/
def sC (x : Option Addr × Nat × Nat) : List Value := [.slice x.1 x.2.1 x.2.2]
theorem rows_cells (s2 : List Sw) (ms : List Nat) : s2.flatMap rC ++ ms.flatMap mkRowE.cells = (s2.map (fun s : Sw => (s.a, s.vs.length, s.vs.length + 12)) ++ ms.map fun b : Nat => (some (⟨b, 0, none⟩ : Addr), 1, 1)).flatMap sC := by
  rw [List.flatMap_append]
  congr 1
  · induction s2 with
    | nil => rfl
    | cons y ys ih => rw [List.flatMap_cons, List.map_cons, List.flatMap_cons, ih]; rfl
  · induction ms with
    | nil => rfl
    | cons y ys ih => rw [List.flatMap_cons, List.map_cons, List.flatMap_cons, ih]; rfl
set_option maxHeartbeats 8000000 in
theorem tkept_spec (B : RpB u) (ta : Ta h u b te ce tn cn th ch tr cr tv cv) (r : RpRo none_ h u ga ha na ra) : CallsH Tryz.prog 35 #[.pointer (some ⟨b, 0, none⟩), aggP u ga gc ha hc na nc ra rc] h (fun v h' => v = .bool true ∧ Ext h h') := by
  refine vf35 _ _ _ _ _ _ _ _ _ _ _ _ _ _ _ _ _ _ _ _ _ h _ ?_
  unfold F35
  have bE := B.errs
  have bH := B.hits
  have bN := B.names
  have bR := B.rows
  have k := St.fresh h
  refine k.vnew fun b1 h2 k => ?_
  have k : St none_ h h2 [A.blk b1 (rpV u ga gc ha hc na nc ra rc).toArray 65] := k
  have ta0 := ta
  obtain ⟨t0, cE, cN, cH, cR, t1, t2, s1, s2, ms, e1, e2, e3, t3, t4, t5, t6, t7⟩ := ta
  have l1 : s1.length = u.hits.length := by
    have := congrArg List.length e1
    rwa [List.length_map, List.length_map] at this
  have l2 : s2.length = u.rows.length := by
    have := congrArg List.length e2
    rwa [List.length_map] at this
  rw [rows_cells] at t4
  refine ⟨fun m h' _ i => ∃ j : Nat, i = j ∧ j ≤ 12 ∧ m = 12 - j ∧ St none_ h h' [A.blk b1 (rpV u ga gc ha hc na nc ra rc).toArray 65], ⟨_, 0, rfl, Nat.zero_le _, rfl, k⟩, ?_⟩
  clear k
  rintro m h5 _ y i ⟨j, rfl, hj, rfl, k⟩
  refine cond_split (fun hcd => ?_) (fun hcd => ?_)
  · have hjl : j < 12 := by have : (j : Int) < 12 := of_decide_eq_true hcd; omega
    have tb := t0.mod k.ext
    refine VSome.mk ⟨_, _, _, Ro.cell tb (j := 15) rfl, _, _, _, k.rd (by rfl), ?_⟩
    rw [wrap_id (by omega) (by omega)]
    refine (t4.mod k.ext).sl.row (f := sC) (sz := 1) (fun _ => rfl) (by omega) (by rw [List.length_append, List.length_map, List.length_map, l2, e3]) (by omega) (by omega) fun ad z hz hcz => ⟨_, _, _, hcz 0 _ rfl, ?_⟩
    have ei : ((u.rows.length : Int) + (j : Int)).toNat = u.rows.length + j := by omega
    rw [ei, List.getElem?_append_right (by rw [List.length_map, l2]; omega), List.length_map, l2, Nat.add_sub_cancel_left, List.getElem?_map] at hz
    obtain ⟨bm, hbm, hz⟩ := Option.map_eq_some_iff.1 hz
    subst hz
    refine VSome.mk ⟨_, _, _, Ro.cell tb (j := 12) rfl, _, _, _, k.rd (by rfl), ?_⟩
    rw [wrap_id (by omega) (by omega)]
    refine (t1.mod k.ext).sl.one (f := fun n : Int => Value.int .i64 n) (by rw [List.length_append]; rfl) (by omega) (by omega) fun ad2 z2 hz2 hcz2 => ⟨_, hcz2, ?_⟩
    have ei2 : ((u.errs.length : Int) + (j : Int)).toNat = u.errs.length + j := by omega
    rw [ei2, m12_at (777 : Int) hjl] at hz2
    cases hz2
    refine cond_false rfl (VSome.mk ⟨_, _, _, Ro.cell tb (j := 13) rfl, _, _, _, k.rd (by rfl), ?_⟩)
    rw [wrap_id (by omega) (by omega)]
    refine (t2.mod k.ext).sl.one (f := strV) (by rw [List.length_append]; rfl) (by omega) (by omega) fun ad3 z3 hz3 hcz3 => ⟨_, hcz3, ?_⟩
    have ei3 : ((u.names.length : Int) + (j : Int)).toNat = u.names.length + j := by omega
    rw [ei3, m12_at mkS hjl] at hz3
    cases hz3
    refine cond_false (by rw [eqMark]; rfl) (VSome.mk ⟨_, _, _, Ro.cell tb (j := 14) rfl, _, _, _, k.rd (by rfl), ?_⟩)
    rw [wrap_id (by omega) (by omega)]
    refine (t3.mod k.ext).sl.row (f := hC) (sz := 2) (fun _ => rfl) (by omega) (by rw [List.length_append, zip_len l1]; rfl) (by omega) (by omega) fun ad4 z4 hz4 hcz4 => ⟨_, hcz4 0 _ rfl, ?_⟩
    have ei4 : ((u.hits.length : Int) + (j : Int)).toNat = (List.zipWith h3 u.hits s1).length + j := by rw [zip_len l1]; omega
    rw [ei4, m12_at mkH hjl] at hz4
    cases hz4
    refine cond_false (by rw [eqMark]; rfl) (cond_false rfl ?_)
    have rm : Ro none_ h (some ⟨bm, 0, none⟩) ([mkV].flatMap valV) := t7 bm (List.mem_of_getElem? hbm)
    refine (rm.mod k.ext).sl.row (f := valV) (sz := 4) (fun _ => rfl) (by omega) rfl (show (0 : Int) ≤ 0 by omega) (show (0 : Int) < ((1 : Nat) : Int) by omega) fun ad5 z5 hz5 hcz5 => ⟨_, hcz5 0 _ rfl, ?_⟩
    cases hz5
    exact cond_false rfl ⟨12 - (j + 1), by omega, j + 1, wrap_nat hjl (by omega), hjl, rfl, k⟩
  clear hcd hj
  refine ⟨fun m h' _ i => ∃ j : Nat, i = j ∧ j ≤ u.hits.length + u.rows.length ∧ m = u.hits.length + u.rows.length - j ∧ St none_ h h' [A.blk b1 (rpV u ga gc ha hc na nc ra rc).toArray 65], ⟨_, 0, rfl, Nat.zero_le _, rfl, k⟩, ?_⟩
  clear k
  rintro m h34 _ y2 i ⟨j, rfl, hj, rfl, k⟩
  have tb := t0.mod k.ext
  refine VSome.mk ⟨_, _, _, Ro.cell tb (j := 16) rfl, cond_split (fun hcd => ?_) (fun hcd => ?_)⟩
  · have hjl : j < u.hits.length + u.rows.length := Int.ofNat_lt.1 (of_decide_eq_true hcd)
    refine VSome.mk ⟨_, _, _, Ro.cell tb (j := 16) rfl, ?_⟩
    refine (t5.mod k.ext).sl.row (f := vc) (sz := 1) (fun _ => rfl) (by omega) (by rw [List.length_append, l1, l2]) (by omega) (by omega) fun ad s hs hcs => ⟨_, _, _, hcs 0 _ rfl, ?_⟩
    have hsm := List.mem_of_getElem? hs
    obtain ⟨q1, q2⟩ := t6 s hsm
    have hsl : s.vs.length ≤ 1099511627776 := by
      rcases List.mem_append.1 hsm with h1 | h1
      · have h2 : s.vs ∈ u.hits.map (·.row) := by rw [← e1]; exact List.mem_map.2 ⟨s, h1, rfl⟩
        obtain ⟨y, hy, e⟩ := List.mem_map.1 h2
        rw [← e]; exact B.hit y hy
      · have h2 : s.vs ∈ u.rows := by rw [← e2]; exact List.mem_map.2 ⟨s, h1, rfl⟩
        exact B.row _ h2
    have ew : IntKind.i64.wrap (((s.vs.length + 12 : Nat) : Int) - 12) = ((s.vs.length : Nat) : Int) := by rw [wrap_id (by omega) (by omega)]; omega
    rw [ew]
    refine ⟨fun m h' _ i => ∃ j2 : Nat, i = ((s.vs.length + j2 : Nat) : Int) ∧ j2 ≤ 12 ∧ m = 12 - j2 ∧ St none_ h h' [A.blk b1 (rpV u ga gc ha hc na nc ra rc).toArray 65], ⟨_, 0, rfl, Nat.zero_le _, rfl, k⟩, ?_⟩
    clear k tb
    rintro m h47 _ y3 i2 ⟨j2, rfl, hj2, rfl, k⟩
    refine cond_split (fun hcd2 => ?_) (fun hcd2 => ⟨u.hits.length + u.rows.length - (j + 1), by omega, j + 1, wrap_nat hjl (by omega), hjl, rfl, k⟩)
    have hjl2 : j2 < 12 := by have : ((s.vs.length + j2 : Nat) : Int) < ((s.vs.length + 12 : Nat) : Int) := of_decide_eq_true hcd2; omega
    refine (q1.mod k.ext).sl.row (f := valV) (sz := 4) (fun _ => rfl) (by omega) (by rw [List.length_append]; rfl) (by omega) (by omega) fun ad4 z4 hz4 hcz4 => ⟨_, hcz4 0 _ rfl, ?_⟩
    rw [Int.toNat_natCast, m12_at mkV hjl2] at hz4
    cases hz4
    exact cond_false rfl ⟨12 - (j2 + 1), by omega, j2 + 1, wrap_nat (k := s.vs.length + j2) (m := s.vs.length + j2 + 1) (by omega) (by omega), hjl2, rfl, k⟩
  clear hcd
  refine ⟨_, k.rd (by rfl), _, k.rd (by rfl), _, k.rd (by rfl), _, k.rd (by rfl), _, _, _, k.rd (by rfl), _, _, _, k.rd (by rfl), _, _, _, k.rd (by rfl), _, _, _, k.rd (by rfl), _, k.rd (by rfl), _, k.rd (by rfl), _, k.rd (by rfl), _, k.rd (by rfl), k.vnew fun b66 h67 k => k.vall (by rfl) (by rfl) fun h68 k => ?_⟩
  refine VSome.mk ⟨_, _, _, Ro.cell (t0.mod k.ext) (j := 12) rfl, _, _, _, k.rd (by rfl), vfront rfl rfl (by omega) (Nat.le_refl _) (k.vst (Nat.le_of_ble_eq_true (by rfl)) fun h73 k => ?_)⟩
  refine VSome.mk ⟨_, _, _, Ro.cell (t0.mod k.ext) (j := 13) rfl, _, _, _, k.rd (by rfl), vfront rfl rfl (by omega) (Nat.le_refl _) (k.vst (Nat.le_of_ble_eq_true (by rfl)) fun h78 k => ?_)⟩
  refine VSome.mk ⟨_, _, _, Ro.cell (t0.mod k.ext) (j := 14) rfl, _, _, _, k.rd (by rfl), vfront rfl rfl (by omega) (Nat.le_refl _) (k.vst (Nat.le_of_ble_eq_true (by rfl)) fun h83 k => ?_)⟩
  refine VSome.mk ⟨_, _, _, Ro.cell (t0.mod k.ext) (j := 15) rfl, _, _, _, k.rd (by rfl), vfront rfl rfl (by omega) (Nat.le_refl _) (k.vst (Nat.le_of_ble_eq_true (by rfl)) fun h88 k => ?_)⟩
  have k := k.reB (b := b66) (rpV u te ce th ch tn cn tr cr).toArray (by rfl)
  refine ⟨_, k.rd (by rfl), _, k.rd (by rfl), _, k.rd (by rfl), _, k.rd (by rfl), _, _, _, k.rd (by rfl), _, _, _, k.rd (by rfl), _, _, _, k.rd (by rfl), _, _, _, k.rd (by rfl), _, k.rd (by rfl), _, k.rd (by rfl), _, k.rd (by rfl), _, k.rd (by rfl), _, k.rd (by rfl), _, k.rd (by rfl), _, k.rd (by rfl), _, k.rd (by rfl), _, _, _, k.rd (by rfl), _, _, _, k.rd (by rfl), _, _, _, k.rd (by rfl), _, _, _, k.rd (by rfl), _, k.rd (by rfl), _, k.rd (by rfl), _, k.rd (by rfl), _, k.rd (by rfl), ?_⟩
  refine CallsH.mono (replies_eq (ta0.at k.ext).ro (r.at k.ext fun _ h => h.elim) ⟨by omega, by omega, by omega, by omega, fun y hy => by have := B.hit y hy; omega, fun y hy => by have := B.row y hy; omega⟩) ?_
  rintro _ h114 ⟨rfl, m9⟩
  exact ⟨_, rfl, by simp, k.ext.then m9⟩
end Go.Proofs.YtgdgebmlcgohhaaGreatDoor.F
