/- The laws of proto: what is written is read back, what is read is written so. Conditions: none. -/
import Derived.Test.YtgdgebmlcgohhaaDoorQH
namespace Go.Proofs.YtgdgebmlcgohhaaDoor.F
open Go Go.VC Go.Proofs
set_option linter.unusedSimpArgs false
set_option linter.unusedVariables false
set_option maxRecDepth 100000
attribute [local irreducible] CallsH RunsTo PureTo

variable {S F G : Nat → Prop} {h0 h h1 : Heap} {L R L' : List A} {a b a1 a2 na ea nb eb ga ha nm ra : Option Addr} {l c l1 c1 l2 c2 p t b1 nc ec nd ed gc hc nk rc : Nat} {bs cs bs1 bs2 w raw : List UInt8} {err e1 : Int} {v : Val} {bad bad1 sp : Bool} {q : Rq} {u : Rp}
theorem putS_ge (s : Bytes) : s.length + 1 ≤ (putS s).length := by
  have := putN_pos s.length
  unfold putS; rw [List.length_append]; omega
theorem flat_mem_le {α β : Type} (f : α → List β) {xs : List α} {x : α} (h : x ∈ xs) : (f x).length ≤ (xs.flatMap f).length := by
  obtain ⟨j, hj⟩ := List.mem_iff_getElem?.1 h
  have := flat_take_le (f := f) hj
  omega
theorem putL_len (f : Bytes → Bytes) (xs : List Bytes) : (putL f xs).length = (putN xs.length).length + (xs.flatMap f).length := by unfold putL; rw [List.length_append]
theorem RqOk.rngQ (k : RqOk q) : rngQ q := by
  have hb := k.big
  have e0 : (putF 0 q).length = (putS q.name).length := rfl
  have e1 : (putF 1 q).length = (putS q.text).length := rfl
  have e2 : (putF 2 q).length = (putL putS q.names).length := rfl
  have g0 := putS_ge q.name
  have g1 := putS_ge q.text
  have g2 := putL_len putS q.names
  have g3 := flat_ge (p := putS) (P := fun _ => True) (fun y _ => putS_pos y) (xs := q.names) fun _ _ => trivial
  have he := k.evs
  unfold F.rngQ short
  refine ⟨k.id, by omega, by omega, ⟨by omega, fun s hs => ?_⟩, by omega, fun e he => (k.rng e he).1⟩
  have := flat_mem_le putS hs
  have := putS_ge s
  omega
theorem okQ_ok (h : okQ q) (hl : (putQ q).length ≤ 65528) : RqOk q := by
  obtain ⟨h1, h2, h3, h4⟩ := h
  rw [emp4] at h4
  obtain ⟨z0, z1, z2, z3⟩ := h4
  have hq : ((spk q.k).flatMap fun i => putF i q).length ≤ 65528 := by
    unfold putQ at hl
    rw [List.length_append, List.length_append] at hl; omega
  have hin : ∀ i, i ∈ spk q.k → (putF i q).length ≤ 65528 := fun i hi => by
    have := flat_mem_le (fun i => putF i q) hi
    omega
  have n0 := (putN_len 0).2
  have d : ∀ i, i < 4 → (putF i q).length ≤ 65528 := fun i hi => by
    by_cases hm : i ∈ spk q.k
    · exact hin i hm
    · match i, hi with
      | 0, _ => show (putS q.name).length ≤ _; rw [z0 hm]; decide +kernel
      | 1, _ => show (putS q.text).length ≤ _; rw [z1 hm]; decide +kernel
      | 2, _ => show (putL putS q.names).length ≤ _; rw [z2 hm]; decide +kernel
      | 3, _ => show (putL encF q.evs).length ≤ _; rw [z3 hm]; decide +kernel
  have hE : ∀ e ∈ q.evs, okE e := fun e he => by
    by_cases hm : 3 ∈ spk q.k
    · exact (h3 3 hm).2 e he
    · rw [z3 hm] at he; cases he
  have hEl : q.evs.length ≤ 65528 := by
    have h5 := d 3 (by omega)
    have e3 : (putF 3 q).length = (putN q.evs.length).length + (q.evs.flatMap encF).length := by
      show (putL encF q.evs).length = _
      unfold putL; rw [List.length_append]
    rw [encF_flat hE] at e3
    have := flat_ge (p := encE) (P := fun _ => True) (fun y _ => encE_pos y) (xs := q.evs) fun _ _ => trivial
    omega
  have hk1 := h1.1
  have hk2 := h1.2
  have d0 := d 0 (by omega)
  have d1 := d 1 (by omega)
  have d2 := d 2 (by omega)
  have d3 := d 3 (by omega)
  refine ⟨h2, ⟨by omega, by omega⟩, fun e he => ⟨(hE e he).2, ?_⟩, by omega, by omega⟩
  have := (fault0.1 (hE e he).1).2.2.2.1
  omega
theorem putL_ge {α : Type} {f : α → Bytes} (hf : ∀ x, 1 ≤ (f x).length) (xs : List α) : xs.length + 1 ≤ (putL f xs).length := by
  have h1 := flat_ge (p := f) (P := fun _ => True) (fun y _ => hf y) (xs := xs) fun _ _ => trivial
  have h2 := putN_pos xs.length
  unfold putL; rw [List.length_append]; omega
theorem putL_mem {α : Type} {f : α → Bytes} {xs : List α} {x : α} (h : x ∈ xs) : (f x).length + 1 ≤ (putL f xs).length := by
  have h1 := flat_mem_le f h
  have h2 := putN_pos xs.length
  unfold putL; rw [List.length_append]; omega
theorem encW_pos (v : Val) : 1 ≤ (encW v).length := by unfold encW; rw [List.length_cons]; omega
theorem putHW_ge (x : Hi) : x.q.length + x.row.length + 2 ≤ (putHW x).length := by
  have h1 := putS_ge x.q
  have h2 := putL_ge encW_pos x.row
  unfold putHW; rw [List.length_append]; omega
theorem putW_parts (u : Rp) : (putL putN u.errs).length + (putL putHW u.hits).length + (putL putS u.names).length + (putL (putL encW) u.rows).length ≤ (putW u).length := by
  unfold putW
  simp only [List.length_append]; omega
theorem RpOk.rngP (k : RpOk u) : rngP u := by
  have hb := k.big
  have h1 := putW_parts u
  have l1 := putL_ge putN_pos u.errs
  have l2 := putL_ge (f := putHW) (fun x => by have := putHW_ge x; omega) u.hits
  have l3 := putL_ge putS_pos u.names
  have l4 := putL_ge (putL_pos encW) u.rows
  refine ⟨k.id, k.err, k.at_, ⟨by omega, k.errs⟩, ⟨by omega, fun x hx => ?_⟩, ⟨by omega, fun s hs => ?_⟩, ⟨by omega, fun x hx => ?_⟩, k.since, k.open_, k.nodes⟩
  · have g1 := putL_mem (f := putHW) hx
    have g2 := putHW_ge x
    exact ⟨by unfold short; omega, by omega, k.hits x hx⟩
  · have g1 := putL_mem (f := putS) hs
    have g2 := putS_ge s
    unfold short; omega
  · have g1 := putL_mem (f := putL encW) hx
    have g2 := putL_ge encW_pos x
    exact ⟨by omega, k.rows x hx⟩
theorem RpOk.size (k : RpOk u) : RpSz u := by
  have hb := k.big
  have h1 := putW_parts u
  have l1 := putL_ge putN_pos u.errs
  have l2 := putL_ge (f := putHW) (fun x => by have := putHW_ge x; omega) u.hits
  have l3 := putL_ge putS_pos u.names
  have l4 := putL_ge (putL_pos encW) u.rows
  refine ⟨by omega, by omega, by omega, by omega, fun x hx => ?_, fun x hx => ?_⟩
  · have g1 := putL_mem (f := putHW) hx
    have g2 := putHW_ge x
    omega
  · have g1 := putL_mem (f := putL encW) hx
    have g2 := putL_ge encW_pos x
    omega
theorem okP_ok (h : okP u) (hl : (putP u).length ≤ 65528) : RpOk u := by
  have hs := (okP_iff.1 h).2
  exact ⟨h.id, h.err, h.at_, h.errs.2, fun x hx v hv => ((h.hits.2 x hx).2.2 v hv).2, fun x hx v hv => ((h.rows.2 x hx).2 v hv).2, h.since, h.open_, h.nodes, by rw [putW_ok hs]; omega⟩
theorem ask_stray {i : Nat} (hi : i < 4) (hn : i ∉ spk q.k) (he : empF i q = false) : (askR q).2 = 301 := by
  unfold askR
  by_cases hk : known q.k
  · rw [if_neg (by simpa using hk), if_pos (stray_iff.2 ⟨i, hi, hn, he⟩)]
  · rw [if_pos hk]
theorem spk3 {k : Int} (h : 3 ∈ spk k) : k = 4 ∨ k = 12 := by
  unfold spk at h
  by_cases h1 : k = 1 ∨ k = 9 ∨ k = 10
  · rw [if_pos h1] at h; simp at h
  rw [if_neg h1] at h
  by_cases h2 : k = 2
  · rw [if_pos h2] at h; simp at h
  rw [if_neg h2] at h
  by_cases h3 : k = 3 ∨ k = 8 ∨ k = 11
  · rw [if_pos h3] at h; simp at h
  rw [if_neg h3] at h
  by_cases h4 : k = 4
  · exact .inl h4
  rw [if_neg h4] at h
  by_cases h5 : k = 5
  · rw [if_pos h5] at h; simp at h
  rw [if_neg h5] at h
  by_cases h6 : k = 12
  · exact .inr h6
  rw [if_neg h6] at h; simp at h
theorem RqOk.names (k : RqOk q) : q.names.length ≤ 1099511627776 := by
  have hb := k.big
  have e2 : (putF 2 q).length = (putL putS q.names).length := rfl
  have := putL_ge putS_pos q.names
  omega
abbrev RpB (b : Nat) (u : Rp) (ga : Option Addr) (gc : Nat) (ha : Option Addr) (hc : Nat) (na : Option Addr) (nc : Nat) (ra : Option Addr) (rc : Nat) : A := A.blk b (rpV u ga gc ha hc na nc ra rc).toArray 34
theorem eq01 (e : Int) : (e == 0) = decide (e = 0) := eq_int e 0
set_option maxHeartbeats 2000000 in
theorem there_spec (hw : Wd none_ h) (hs : Spk none_ h) (rq : RqRo none_ h q na ea) (okq : RqOk q) (rp : RpRo none_ h u ga ha nm ra) (okp : RpOk u) (hr : Sl h a (bytesV raw)) (hl : raw.length = l) (hlc : l ≤ c) (hb : l ≤ 1099511627776) :
    CallsH Tryd.prog 3 #[aggQ q na nc ea ec, aggP u ga gc ha hc nm nk ra rc, .slice a l c] h (fun v h' => v = .bool true ∧ Ext h h') := by
  refine vf3 _ _ _ _ _ _ _ _ _ _ _ _ _ _ _ _ _ _ _ _ _ _ _ _ _ _ _ _ _ _ _ _ _ h _ ?_
  unfold F3
  have k := St.fresh h
  have rQ := okq.rngQ
  have rP := okp.rngP
  refine k.vnew fun b1 h2 k => k.vnew fun b3 h4 k => ?_
  have k : St none_ h h4 [RpB b3 u ga gc ha hc nm nk ra rc, RqB b1 q na nc ea ec] := k
  refine CallsH.mono (begun_spec (hw.in k) (hs.in k)) ?_
  rintro _ h6 ⟨rfl, m⟩
  have k := k.next m
  clear m
  refine ⟨_, rfl, cond_false rfl ?_⟩
  refine ⟨_, k.rd (by rfl), _, k.rd (by rfl), _, k.rd (by rfl), _, k.rd (by rfl), _, _, _, k.rd (by rfl), _, _, _, k.rd (by rfl), ?_⟩
  refine CallsH.mono (ask_spec (q := q) (na := na) (ea := ea) (hw.in k) (hs.in k) okq (rq.in k)) ?_
  rintro _ h15 ⟨a16, c16, rfl, k2⟩
  have k := k.add1 k2
  refine ⟨_, _, _, _, rfl, fun h' _ => St none_ h h' [RpB b3 u ga gc ha hc nm nk ra rc, RqB b1 q na nc ea ec], ?_, ?_⟩
  · rw [eq01]
    refine cond_split (fun hc => ?_) (fun hc => k.drop)
    have h0 := of_decide_eq_true hc
    obtain ⟨e1, e2⟩ := ask_asked rQ h0
    have hle : (askR q).1.length ≤ c16 := by
      obtain ⟨q, _, _⟩ := St.vec (a := a16) k
      exact q.le
    refine CallsH.mono (asked_spec (bs := (askR q).1) (hw.in k) (hs.in k) (k.sl (a := a16)) rfl hle) ?_
    rintro _ h20 ⟨na2, nc2, ea2, ec2, rfl, k2⟩
    rw [e1] at k2 ⊢
    have k := k.add2 k2
    refine ⟨_, _, _, _, _, _, _, _, _, _, _, rfl, k.vnew fun b28 h29 k => k.vall (by rfl) (by rfl) fun h30 k => cond_false rfl (cond_false (decide_eq_false (show ¬ ((askR q).1.length : Int) > 65528 by omega)) ?_)⟩
    refine ⟨_, k.rd (by rfl), _, k.rd (by rfl), _, k.rd (by rfl), _, k.rd (by rfl), _, _, _, k.rd (by rfl), _, _, _, k.rd (by rfl), _, k.rd (by rfl), _, k.rd (by rfl), _, k.rd (by rfl), _, k.rd (by rfl), _, _, _, k.rd (by rfl), _, _, _, k.rd (by rfl), ?_⟩
    refine CallsH.mono (requests_eq (q1 := q) (q2 := q) ⟨El.ro (E := texE) k.pull1, El.ro (E := evE) k.pull2⟩ (rq.in k) (by have := okq.names; omega) (by have := okq.evs; omega) (fun x hx => by have := (okq.rng x hx).2; omega)) ?_
    rintro _ h44 ⟨rfl, m⟩
    have k := k.next m
    exact ⟨_, rfl, cond_false (by simp) k.drop.drop.drop.drop⟩
  clear k k2
  rintro h46 _ _ k
  refine ⟨_, k.rd (by rfl), _, k.rd (by rfl), _, k.rd (by rfl), _, k.rd (by rfl), _, _, _, k.rd (by rfl), _, _, _, k.rd (by rfl), _, _, _, k.rd (by rfl), _, _, _, k.rd (by rfl), _, k.rd (by rfl), _, k.rd (by rfl), _, k.rd (by rfl), _, k.rd (by rfl), ?_⟩
  refine CallsH.mono (tell_spec (q := u) (ga := ga) (ha := ha) (na := nm) (ra := ra) okp (rp.in k)) ?_
  rintro _ h62 ⟨a63, c63, rfl, k2⟩
  have k := k.add1 k2
  refine ⟨_, _, _, _, rfl, fun h' _ => St none_ h h' [RpB b3 u ga gc ha hc nm nk ra rc, RqB b1 q na nc ea ec], ?_, ?_⟩
  · rw [eq01]
    refine cond_split (fun hc => ?_) (fun hc => k.drop)
    have h0 := of_decide_eq_true hc
    obtain ⟨e1, e2⟩ := tell_told rP h0
    have hle : (tellR u).1.length ≤ c63 := by
      obtain ⟨q, _, _⟩ := St.vec (a := a63) k
      exact q.le
    refine CallsH.mono (told_spec (bs := (tellR u).1) (k.sl (a := a63)) rfl hle) ?_
    rintro _ h67 ⟨ga2, gc2, ha2, hc2, na2, nc2, ra2, rc2, rfl, k2⟩
    rw [e1] at k2 ⊢
    have k := k.add4 k2
    refine ⟨_, _, _, _, _, _, _, _, _, _, _, _, _, _, _, _, _, _, _, _, _, rfl, k.vnew fun b81 h82 k => k.vall (by rfl) (by rfl) fun h83 k => cond_false rfl (cond_false (decide_eq_false (by omega)) ?_)⟩
    refine ⟨_, k.rd (by rfl), _, k.rd (by rfl), _, k.rd (by rfl), _, k.rd (by rfl), _, _, _, k.rd (by rfl), _, _, _, k.rd (by rfl), _, _, _, k.rd (by rfl), _, _, _, k.rd (by rfl), _, k.rd (by rfl), _, k.rd (by rfl), _, k.rd (by rfl), _, k.rd (by rfl), ?_⟩
    refine ⟨_, k.rd (by rfl), _, k.rd (by rfl), _, k.rd (by rfl), _, k.rd (by rfl), _, _, _, k.rd (by rfl), _, _, _, k.rd (by rfl), _, _, _, k.rd (by rfl), _, _, _, k.rd (by rfl), _, k.rd (by rfl), _, k.rd (by rfl), _, k.rd (by rfl), _, k.rd (by rfl), ?_⟩
    refine CallsH.mono (replies_eq (q1 := u) (q2 := u) ⟨El.ro (E := errE) k.pull1, El.ro (E := hitE) k.pull2, El.ro (E := texE) k.pull3, El.ro (E := rowE) k.pull4⟩ (rp.in k) okp.size) ?_
    rintro _ h109 ⟨rfl, m⟩
    have k := k.next m
    exact ⟨_, rfl, cond_false (by simp) k.drop.drop.drop.drop.drop.drop⟩
  clear k k2
  rintro h111 _ _ k
  refine CallsH.mono (asked_spec (bs := raw) (hw.in k) (hs.in k) (hr.ext k.ext) hl hlc) ?_
  rintro _ h115 ⟨na2, nc2, ea2, ec2, rfl, k2⟩
  have k := k.add2 k2
  refine ⟨_, _, _, _, _, _, _, _, _, _, _, rfl, k.vnew fun b123 h124 k => k.vall (by rfl) (by rfl) fun h125 k => ?_⟩
  refine ⟨fun h' _ => St none_ h h' [RpB b3 u ga gc ha hc nm nk ra rc, RqB b1 q na nc ea ec], ?_, ?_⟩
  · rw [eq01]
    refine cond_split (fun hc => ?_) (fun hc => k.drop.drop.drop)
    have h0 := of_decide_eq_true hc
    have e1 := asked_ask h0
    obtain ⟨o1, o2, o3⟩ := asked_ok.1 (show askedR raw = ((askedR raw).1, 0) by rw [← h0])
    have ok2 := okQ_ok o1 (by rw [← o2]; exact o3)
    generalize (askedR raw).1 = q3 at *
    refine ⟨_, k.rd (by rfl), _, k.rd (by rfl), _, k.rd (by rfl), _, k.rd (by rfl), _, _, _, k.rd (by rfl), _, _, _, k.rd (by rfl), ?_⟩
    refine CallsH.mono (ask_spec (q := q3) (na := na2) (ea := ea2) (hw.in k) (hs.in k) ok2 ⟨El.ro (E := texE) k.pull1, El.ro (E := evE) k.pull2⟩) ?_
    rintro _ h134 ⟨a135, c135, rfl, k2⟩
    rw [e1] at k2 ⊢
    have k := k.add1 k2
    refine ⟨_, _, _, _, rfl, cond_false rfl ?_⟩
    refine CallsH.mono (same_spec (bs := raw) (cs := raw) (k.sl (a := a135)) rfl (hr.ext k.ext) hl (by show raw.length < _; omega)) ?_
    rintro _ _ ⟨rfl, rfl⟩
    exact ⟨_, rfl, cond_false (by simp) k.drop.drop.drop.drop⟩
  clear k k2
  rintro h140 _ _ k
  refine CallsH.mono (told_spec (bs := raw) (hr.ext k.ext) hl hlc) ?_
  rintro _ h144 ⟨ga2, gc2, ha2, hc2, na2, nc2, ra2, rc2, rfl, k2⟩
  have k := k.add4 k2
  refine ⟨_, _, _, _, _, _, _, _, _, _, _, _, _, _, _, _, _, _, _, _, _, rfl, k.vnew fun b158 h159 k => k.vall (by rfl) (by rfl) fun h160 k => ?_⟩
  refine ⟨fun h' _ => St none_ h h' [RpB b3 u ga gc ha hc nm nk ra rc, RqB b1 q na nc ea ec], ?_, ?_⟩
  · rw [eq01]
    refine cond_split (fun hc => ?_) (fun hc => k.drop.drop.drop.drop.drop)
    have h0 := of_decide_eq_true hc
    have e1 := told_tell h0
    obtain ⟨o1, o2, o3⟩ := told_ok.1 (show toldR raw = ((toldR raw).1, 0) by rw [← h0])
    have ok2 := okP_ok o1 (by rw [← o2]; exact o3)
    generalize (toldR raw).1 = q3 at *
    refine ⟨_, k.rd (by rfl), _, k.rd (by rfl), _, k.rd (by rfl), _, k.rd (by rfl), _, _, _, k.rd (by rfl), _, _, _, k.rd (by rfl), _, _, _, k.rd (by rfl), _, _, _, k.rd (by rfl), _, k.rd (by rfl), _, k.rd (by rfl), _, k.rd (by rfl), _, k.rd (by rfl), ?_⟩
    refine CallsH.mono (tell_spec (q := q3) (ga := ga2) (ha := ha2) (na := na2) (ra := ra2) ok2 ⟨El.ro (E := errE) k.pull1, El.ro (E := hitE) k.pull2, El.ro (E := texE) k.pull3, El.ro (E := rowE) k.pull4⟩) ?_
    rintro _ h175 ⟨a176, c176, rfl, k2⟩
    rw [e1] at k2 ⊢
    have k := k.add1 k2
    refine ⟨_, _, _, _, rfl, cond_false rfl ?_⟩
    refine CallsH.mono (same_spec (bs := raw) (cs := raw) (k.sl (a := a176)) rfl (hr.ext k.ext) hl (by show raw.length < _; omega)) ?_
    rintro _ _ ⟨rfl, rfl⟩
    exact ⟨_, rfl, cond_false (by simp) k.drop.drop.drop.drop.drop.drop⟩
  clear k k2
  rintro h181 _ _ k
  have fin : ∀ {h' : Heap}, Ext h h' → (askR q).2 = 301 → ∀ (v : Value) (h2 : Heap), (∃ x c, v = .tuple #[.slice x (askR q).1.length c, .int .i64 (askR q).2] ∧ St none_ h' h2 [BV x (askR q).1.length c (askR q).1]) →
      ∃ (a : Option Addr) (la ca : Nat) (x : Int), v = .tuple #[.slice a la ca, .int .i64 x] ∧ (Value.bool (x == 301) = .bool true ∧ Ext h h2) := by
    rintro h' m e v h2 ⟨x, c, rfl, k⟩
    exact ⟨_, _, _, _, rfl, by rw [e]; rfl, m.then k.ext⟩
  have seven : ∀ {h' : Heap}, Ext h h' → (q.k == 7) = true → (!strEq (bA q.name) (ByteArray.mk #[])) = true → ∀ (v : Value) (h2 : Heap), (∃ x c, v = .tuple #[.slice x (askR q).1.length c, .int .i64 (askR q).2] ∧ St none_ h' h2 [BV x (askR q).1.length c (askR q).1]) →
      ∃ (a : Option Addr) (la ca : Nat) (x : Int), v = .tuple #[.slice a la ca, .int .i64 x] ∧ (Value.bool (x == 301) = .bool true ∧ Ext h h2) := fun m g7 g8 => fin m (by
    have g7 : q.k = 7 := by simpa using g7
    rw [eqNil] at g8
    have g8 : q.name ≠ [] := by simpa using g8
    refine ask_stray (i := 0) (by omega) (by rw [g7]; decide) ?_
    show decide (q.name = []) = false
    exact decide_eq_false g8)
  refine ⟨_, k.rd (by rfl), cond_split (fun c1 => ⟨_, k.rd (by rfl), cond_split (fun c2 => ⟨_, k.rd (by rfl), cond_split (fun c3 => ⟨_, k.rd (by rfl), cond_split (fun c4 => ⟨_, _, _, k.rd (by rfl), cond_split (fun c5 => ?_) (fun _ => ⟨_, k.rd (by rfl), cond_split (fun g7 => ⟨_, k.rd (by rfl), cond_split (fun g8 => ⟨_, k.rd (by rfl), _, k.rd (by rfl), _, k.rd (by rfl), _, k.rd (by rfl), _, _, _, k.rd (by rfl), _, _, _, k.rd (by rfl), CallsH.mono (ask_spec (q := q) (na := na) (ea := ea) (hw.in k) (hs.in k) okq (rq.in k)) (seven k.ext g7 g8)⟩) (fun _ => ⟨rfl, k.ext⟩)⟩) (fun _ => ⟨rfl, k.ext⟩)⟩)⟩) (fun _ => ⟨_, k.rd (by rfl), cond_split (fun g7 => ⟨_, k.rd (by rfl), cond_split (fun g8 => ⟨_, k.rd (by rfl), _, k.rd (by rfl), _, k.rd (by rfl), _, k.rd (by rfl), _, _, _, k.rd (by rfl), _, _, _, k.rd (by rfl), CallsH.mono (ask_spec (q := q) (na := na) (ea := ea) (hw.in k) (hs.in k) okq (rq.in k)) (seven k.ext g7 g8)⟩) (fun _ => ⟨rfl, k.ext⟩)⟩) (fun _ => ⟨rfl, k.ext⟩)⟩)⟩) (fun _ => ⟨_, k.rd (by rfl), cond_split (fun g7 => ⟨_, k.rd (by rfl), cond_split (fun g8 => ⟨_, k.rd (by rfl), _, k.rd (by rfl), _, k.rd (by rfl), _, k.rd (by rfl), _, _, _, k.rd (by rfl), _, _, _, k.rd (by rfl), CallsH.mono (ask_spec (q := q) (na := na) (ea := ea) (hw.in k) (hs.in k) okq (rq.in k)) (seven k.ext g7 g8)⟩) (fun _ => ⟨rfl, k.ext⟩)⟩) (fun _ => ⟨rfl, k.ext⟩)⟩)⟩) (fun _ => ⟨_, k.rd (by rfl), cond_split (fun g7 => ⟨_, k.rd (by rfl), cond_split (fun g8 => ⟨_, k.rd (by rfl), _, k.rd (by rfl), _, k.rd (by rfl), _, k.rd (by rfl), _, _, _, k.rd (by rfl), _, _, _, k.rd (by rfl), CallsH.mono (ask_spec (q := q) (na := na) (ea := ea) (hw.in k) (hs.in k) okq (rq.in k)) (seven k.ext g7 g8)⟩) (fun _ => ⟨rfl, k.ext⟩)⟩) (fun _ => ⟨rfl, k.ext⟩)⟩)⟩) (fun _ => ⟨_, k.rd (by rfl), cond_split (fun g7 => ⟨_, k.rd (by rfl), cond_split (fun g8 => ⟨_, k.rd (by rfl), _, k.rd (by rfl), _, k.rd (by rfl), _, k.rd (by rfl), _, _, _, k.rd (by rfl), _, _, _, k.rd (by rfl), CallsH.mono (ask_spec (q := q) (na := na) (ea := ea) (hw.in k) (hs.in k) okq (rq.in k)) (seven k.ext g7 g8)⟩) (fun _ => ⟨rfl, k.ext⟩)⟩) (fun _ => ⟨rfl, k.ext⟩)⟩)⟩
  refine ⟨_, k.rd (by rfl), _, k.rd (by rfl), _, k.rd (by rfl), _, k.rd (by rfl), _, _, _, k.rd (by rfl), _, _, _, k.rd (by rfl), ?_⟩
  refine CallsH.mono (ask_spec (q := q) (na := na) (ea := ea) (hw.in k) (hs.in k) okq (rq.in k)) (fin k.ext ?_)
  have c3 : q.k ≠ 4 := by simpa using c3
  have c4 : q.k ≠ 12 := by simpa using c4
  have c5 : (q.evs.length : Int) > 0 := of_decide_eq_true c5
  refine ask_stray (i := 3) (by omega) (fun hm => ?_) ?_
  · rcases spk3 hm with e | e
    · exact c3 e
    · exact c4 e
  · show decide (q.evs = []) = false
    exact decide_eq_false fun e => by rw [e] at c5; simp at c5
end Go.Proofs.YtgdgebmlcgohhaaDoor.F
