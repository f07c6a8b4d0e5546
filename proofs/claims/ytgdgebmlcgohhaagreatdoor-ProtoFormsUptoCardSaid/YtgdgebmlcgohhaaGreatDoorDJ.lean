/- A request's twin is as it was made. Conditions: none. -/
import Derived.Test.YtgdgebmlcgohhaaGreatDoorDI
namespace Go.Proofs.YtgdgebmlcgohhaaGreatDoor.F
open Go Go.VC Go.Proofs
set_option linter.unusedSimpArgs false
set_option linter.unusedVariables false
set_option maxRecDepth 100000
attribute [local irreducible] CallsH RunsTo PureTo

variable {S F G : Nat → Prop} {h0 h h1 : Heap} {L R L' : List A} {a b a1 a2 x ga ha na ra ea tn te tv : Option Addr} {l c l1 c1 l2 c2 p t b1 lx cx gc hc nc rc ec e sz bt n cn ce cv : Nat} {vs news : List Value} {err e1 : Int} {v : Val} {bad bad1 bad2 : Bool} {q : Rq} {u : Rp} {z : Value}
theorem tex_of {xs : List Bytes} (r : Ro F h a (xs.map strV)) (hl : xs.length = l) : RoX texE F h a l xs := by
  have key : ∀ ys : List Bytes, ys.map strV = ys.flatMap fun s => [strV s] := fun ys => by
    induction ys with
    | nil => rfl
    | cons y ys ih => rw [List.flatMap_cons, ← ih]; rfl
  exact ⟨xs, (key xs) ▸ r, fun _ _ => trivial, List.map_id xs, hl⟩
theorem Tw.at (k : Tw h q tn te tv) (m : Ext h h1) : Tw h1 q tn te tv := by
  obtain ⟨k1, ss, k2, k3, k4, k5⟩ := k
  have hf : ∀ b, none_ b → False ∨ h.size ≤ b := fun _ h => h.elim
  exact ⟨k1.at m hf, ss, k2, k3.at m hf, k4.at m hf, fun s hs => ⟨(k5 s hs).1.at m hf, (k5 s hs).2⟩⟩
theorem zip_map {es : List Ev} : ∀ {ss : List Sw}, ss.map (·.vs) = es.map (·.vs) → (List.zipWith e3 es ss).map (fun x => x.tm) = es.map (·.tm) ∧ (List.zipWith e3 es ss).length = es.length := by
  induction es with
  | nil => intro ss h; cases ss with
    | nil => exact ⟨rfl, rfl⟩
    | cons s ss => cases h
  | cons y es ih =>
    intro ss h
    cases ss with
    | nil => cases h
    | cons s ss =>
      simp only [List.map_cons, List.cons.injEq] at h
      obtain ⟨i1, i2⟩ := ih h.2
      simp only [List.zipWith_cons_cons, List.map_cons, List.length_cons, i1, i2]
      exact ⟨rfl, trivial⟩
/-- The twin's parts are the request's. -/
theorem Tw.ro (k : Tw h q tn te tv) : RqRo none_ h q tn te := by
  obtain ⟨k1, ss, k2, k3, k4, k5⟩ := k
  refine ⟨tex_of (by rw [List.map_append] at k1; exact k1.pre) rfl, ?_⟩
  rw [List.flatMap_append] at k3
  have key : ∀ (es : List Ev) (ss : List Sw), ss.map (·.vs) = es.map (·.vs) → ∃ us : List Se, (List.zipWith e3 es ss).flatMap evC = us.flatMap seV ∧ us.map (·.e) = es ∧ ∀ x ∈ us, ∃ s ∈ ss, x.a = s.a ∧ x.e.vs = s.vs := fun es => by
    induction es with
    | nil => intro ss h; cases ss with
      | nil => exact ⟨[], rfl, rfl, fun x hx => by cases hx⟩
      | cons s ss => cases h
    | cons y es ih =>
      intro ss h
      cases ss with
      | nil => cases h
      | cons s ss =>
        simp only [List.map_cons, List.cons.injEq] at h
        obtain ⟨us, u1, u2, u3⟩ := ih ss h.2
        refine ⟨⟨s.a, y.vs.length + 12, y⟩ :: us, ?_, ?_, ?_⟩
        · rw [List.zipWith_cons_cons, List.flatMap_cons, List.flatMap_cons, u1]; rfl
        · rw [List.map_cons, u2]
        · intro x hx
          rcases List.mem_cons.1 hx with rfl | hx
          · exact ⟨s, by simp, rfl, h.1.symm⟩
          · obtain ⟨s', hs', e⟩ := u3 x hx
            exact ⟨s', by simp [hs'], e⟩
  obtain ⟨us, u1, u2, u3⟩ := key q.evs ss k2
  refine ⟨us, by rw [← u1]; exact k3.pre, fun x hx => ?_, u2, rfl⟩
  obtain ⟨s, hs, ea, ev⟩ := u3 x hx
  have := (k5 s hs).1
  rw [List.flatMap_append] at this
  show Ro none_ h x.a (x.e.vs.flatMap valV)
  rw [ea, ev]; exact this.pre
theorem m12_at {α : Type} (x : α) {xs : List α} {i : Nat} (h : i < 12) : (xs ++ m12 x)[xs.length + i]? = some x := by
  rw [List.getElem?_append_right (by omega), Nat.add_sub_cancel_left]
  unfold m12
  rw [List.getElem?_replicate]; simp [h]
theorem eqMark : strEq (bA mkS) (ByteArray.mk #[109, 97, 114, 107]) = true := (eqStr mkS mkS).trans (by simp)
set_option maxHeartbeats 4000000 in
theorem kept_spec (hN : q.names.length ≤ 1099511627776) (hE : q.evs.length ≤ 1099511627776) (hV : ∀ e ∈ q.evs, e.vs.length ≤ 1099511627776) (hcn : q.names.length + 12 ≤ cn) (hce : q.evs.length + 12 ≤ ce) (tw : Tw h q tn te tv) (r : RqRo none_ h q na ea) :
    CallsH Tryz.prog 30 #[.agg (twV q tn q.names.length (q.names.length + 12) te q.evs.length (q.evs.length + 12) tn (q.names.length + 12) cn te (q.evs.length + 12) ce tv q.evs.length cv).toArray, aggQ q na nc ea ec] h (fun v h' => v = .bool true ∧ Ext h h') := by
  refine vf30 _ _ _ _ _ _ _ _ _ _ _ _ _ _ _ _ _ _ _ _ _ _ _ _ _ _ _ _ _ h _ ?_
  unfold F30
  have k := St.fresh h
  refine k.vnew fun b1 h2 k => k.vnew fun b3 h4 k => ?_
  have k : St none_ h h4 [RqB b3 q na nc ea ec, A.blk b1 (twV q tn q.names.length (q.names.length + 12) te q.evs.length (q.evs.length + 12) tn (q.names.length + 12) cn te (q.evs.length + 12) ce tv q.evs.length cv).toArray 77] := k
  refine ⟨_, _, _, k.rd (by rfl), _, _, _, k.rd (by rfl), _, _, _, k.rd (by rfl), vfront rfl rfl (by omega) (Nat.le_refl _) ⟨_, _, _, k.rd (by rfl), ?_⟩⟩
  have tw4 := tw.at k.ext
  have rq4 : RqRo none_ h4 q na ea := r.at k.ext fun _ h => h.elim
  refine CallsH.mono (texts_eq tw4.ro.names rq4.names (by omega)) ?_
  rintro _ _ ⟨rfl, rfl⟩
  refine ⟨_, rfl, cond_false (by simp) ⟨_, _, _, k.rd (by rfl), vfront rfl rfl (by omega) (Nat.le_refl _) ⟨_, _, _, k.rd (by rfl), ?_⟩⟩⟩
  refine CallsH.mono (events_eq tw4.ro.evs rq4.evs (by omega) (fun e he => by have := hV e he; omega)) ?_
  rintro _ _ ⟨rfl, rfl⟩
  refine ⟨_, rfl, cond_false (by simp) ?_⟩
  obtain ⟨t1, ss, t2, t3, t4, t5⟩ := tw
  have hzl := (zip_map t2).2
  refine ⟨fun m h' _ i => ∃ j : Nat, i = j ∧ j ≤ 12 ∧ m = 12 - j ∧ St none_ h h' [RqB b3 q na nc ea ec, A.blk b1 (twV q tn q.names.length (q.names.length + 12) te q.evs.length (q.evs.length + 12) tn (q.names.length + 12) cn te (q.evs.length + 12) ce tv q.evs.length cv).toArray 77], ⟨_, 0, rfl, Nat.zero_le _, rfl, k⟩, ?_⟩
  clear k tw4 rq4
  rintro m h21 _ y i ⟨j, rfl, hj, rfl, k⟩
  refine cond_split (fun hc => ?_) (fun hc => ?_)
  · have hjl : j < 12 := by have : (j : Int) < 12 := of_decide_eq_true hc; omega
    refine ⟨_, _, _, k.rd (by rfl), _, _, _, k.rd (by rfl), ?_⟩
    rw [wrap_id (by omega) (by omega)]
    refine (t1.mod k.ext).sl.one (f := strV) (by rw [List.length_append]; rfl) (by omega) (by omega) fun ad z hz hcz => ⟨_, hcz, ?_⟩
    have e1 : ((q.names.length : Int) + (j : Int)).toNat = q.names.length + j := by omega
    rw [e1, m12_at mkS hjl] at hz
    cases hz
    refine cond_false (by rw [eqMark]; rfl) ⟨_, _, _, k.rd (by rfl), ?_⟩
    rw [wrap_id (by omega) (by omega)]
    refine (t3.mod k.ext).sl.row (f := evC) (sz := 3) (fun _ => rfl) (by omega) (by rw [List.length_append, hzl]; rfl) (by omega) (by omega) fun ad z hz hcz => ⟨_, hcz 0 _ rfl, ?_⟩
    have e2 : ((q.evs.length : Int) + (j : Int)).toNat = (List.zipWith e3 q.evs ss).length + j := by rw [hzl]; omega
    rw [e2, m12_at mkE hjl] at hz
    cases hz
    exact cond_false (by rw [eqMark]; rfl) ⟨12 - (j + 1), by omega, j + 1, wrap_nat hjl (by omega), hjl, rfl, k⟩
  clear hc
  refine ⟨fun m h' _ i => ∃ j : Nat, i = j ∧ j ≤ q.evs.length ∧ m = q.evs.length - j ∧ St none_ h h' [RqB b3 q na nc ea ec, A.blk b1 (twV q tn q.names.length (q.names.length + 12) te q.evs.length (q.evs.length + 12) tn (q.names.length + 12) cn te (q.evs.length + 12) ce tv q.evs.length cv).toArray 77], ⟨_, 0, rfl, Nat.zero_le _, rfl, k⟩, ?_⟩
  clear k hj
  rintro m h35 _ y2 i ⟨j, rfl, hj, rfl, k⟩
  refine cond_split (fun hc => ?_) (fun hc => ⟨rfl, k.ext⟩)
  have hjl : j < q.evs.length := Int.ofNat_lt.1 (of_decide_eq_true hc)
  have hsl : ss.length = q.evs.length := by
    have := congrArg List.length t2
    rwa [List.length_map, List.length_map] at this
  refine ⟨_, _, _, k.rd (by rfl), ?_⟩
  refine r.evs.one k.ext (by omega) (by omega) fun ad z hz hcz hrd => ⟨_, _, _, hcz 2 _ rfl, _, _, _, k.rd (by rfl), ?_⟩
  rw [Int.toNat_natCast] at hz
  have hzv : z.e.vs.length ≤ 1099511627776 := hV _ (List.mem_of_getElem? hz)
  have hrd : Ro none_ h z.a (z.e.vs.flatMap valV) := hrd
  refine (t4.mod k.ext).sl.row (f := vc) (sz := 1) (fun _ => rfl) (by omega) hsl (by omega) (by omega) fun ad1 s hs hcs => ⟨_, _, _, hcs 0 _ rfl, ?_⟩
  rw [Int.toNat_natCast] at hs
  have ev : s.vs = z.e.vs := by
    have := congrArg (·[j]?) t2
    simp only [List.getElem?_map, hs, hz, Option.map_some, Option.some.injEq] at this
    exact this
  obtain ⟨hsr, hsc⟩ := t5 s (List.mem_of_getElem? hs)
  rw [ev] at hsr hsc
  refine vfront rfl rfl (by omega) (Nat.le_refl _) ⟨_, _, _, k.rd (by rfl), ?_⟩
  refine r.evs.one k.ext (by omega) (by omega) fun ad2 z2 hz2 hcz2 hrd2 => ⟨_, _, _, hcz2 2 _ rfl, ?_⟩
  rw [Int.toNat_natCast] at hz2
  have e2 : z2.e = z.e := Option.some.inj (hz2.symm.trans hz)
  have hrd2 : Ro none_ h z2.a (z2.e.vs.flatMap valV) := hrd2
  rw [e2] at hrd2 ⊢
  have hsp := hsr
  rw [List.flatMap_append] at hsp
  refine CallsH.mono (vals_eq (vs := z.e.vs) (ws := z.e.vs) (hsp.pre.mod k.ext).sl rfl (hrd2.mod k.ext).sl rfl (by omega)) ?_
  rintro _ _ ⟨rfl, rfl⟩
  refine ⟨_, rfl, cond_false (by simp) ?_⟩
  refine ⟨fun m h' _ i => ∃ j2 : Nat, i = j2 ∧ j2 ≤ 12 ∧ m = 12 - j2 ∧ St none_ h h' [RqB b3 q na nc ea ec, A.blk b1 (twV q tn q.names.length (q.names.length + 12) te q.evs.length (q.evs.length + 12) tn (q.names.length + 12) cn te (q.evs.length + 12) ce tv q.evs.length cv).toArray 77], ⟨_, 0, rfl, Nat.zero_le _, rfl, k⟩, ?_⟩
  clear k
  rintro m h55 _ y3 i2 ⟨j2, rfl, hj2, rfl, k⟩
  refine cond_split (fun hc => ?_) (fun hc => ⟨q.evs.length - (j + 1), by omega, j + 1, wrap_nat hjl (by omega), hjl, rfl, k⟩)
  have hjl2 : j2 < 12 := by have : (j2 : Int) < 12 := of_decide_eq_true hc; omega
  refine ⟨_, _, _, k.rd (by rfl), ?_⟩
  refine (t4.mod k.ext).sl.row (f := vc) (sz := 1) (fun _ => rfl) (by omega) hsl (by omega) (by omega) fun ad3 s3 hs3 hcs3 => ⟨_, _, _, hcs3 0 _ rfl, ?_⟩
  rw [Int.toNat_natCast] at hs3
  obtain rfl : s3 = s := Option.some.inj (hs3.symm.trans hs)
  rw [ev, wrap_id (by omega) (by omega)]
  refine (hsr.mod k.ext).sl.row (f := valV) (sz := 4) (fun _ => rfl) (by omega) (by rw [List.length_append]; rfl) (by omega) (by omega) fun ad4 z4 hz4 hcz4 => ⟨_, hcz4 0 _ rfl, ?_⟩
  have e4 : ((z.e.vs.length : Int) + (j2 : Int)).toNat = z.e.vs.length + j2 := by omega
  rw [e4, m12_at mkV hjl2] at hz4
  cases hz4
  exact cond_false rfl ⟨12 - (j2 + 1), by omega, j2 + 1, wrap_nat hjl2 (by omega), hjl2, rfl, k⟩
end Go.Proofs.YtgdgebmlcgohhaaGreatDoor.F
