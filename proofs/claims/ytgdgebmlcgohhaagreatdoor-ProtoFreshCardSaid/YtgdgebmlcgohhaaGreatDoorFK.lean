/- How much is read, how much a stream answers. Conditions: none. -/
import Derived.Test.YtgdgebmlcgohhaaGreatDoorFJ
namespace Go.Proofs.YtgdgebmlcgohhaaGreatDoor.F
open Go Go.VC Go.Proofs
set_option linter.unusedSimpArgs false
set_option linter.unusedVariables false
set_option maxRecDepth 100000
attribute [local irreducible] CallsH RunsTo PureTo

variable {S F G : Nat → Prop} {h0 h h1 : Heap} {L R L' : List A} {a b0 la wa : Option Addr} {l c l2 c2 p b cl cw g t e sz bt : Nat} {n : Int} {vs news : List Value} {z : Value} {q : Rq} {u : Rp} {v : Val} {bs : Bytes}
theorem putS_ge (s : Bytes) : s.length + 1 ≤ (putS s).length := by
  have := putN_pos s.length
  unfold putS; rw [List.length_append]; omega
theorem flat_mem_le {α β : Type} (f : α → List β) {xs : List α} {x : α} (h : x ∈ xs) : (f x).length ≤ (xs.flatMap f).length := by
  obtain ⟨j, hj⟩ := List.mem_iff_getElem?.1 h
  have := flat_take_le (f := f) hj
  omega
theorem okQ_d (h : okQ q) (hl : (putQ q).length ≤ 65528) : ∀ i, i < 4 → (putF i q).length ≤ 65528 := by
  obtain ⟨h1, h2, h3, h4⟩ := h
  rw [emp4] at h4
  obtain ⟨z0, z1, z2, z3⟩ := h4
  have hq : ((spk q.k).flatMap fun i => putF i q).length ≤ 65528 := by
    unfold putQ at hl
    rw [List.length_append, List.length_append] at hl; omega
  have hin : ∀ i, i ∈ spk q.k → (putF i q).length ≤ 65528 := fun i hi => by
    have := flat_mem_le (fun i => putF i q) hi
    omega
  have n0 := (putN_len 0).2
  intro i hi
  exact by
    by_cases hm : i ∈ spk q.k
    · exact hin i hm
    · match i, hi with
      | 0, _ => show (putS q.name).length ≤ _; rw [z0 hm]; decide +kernel
      | 1, _ => show (putS q.text).length ≤ _; rw [z1 hm]; decide +kernel
      | 2, _ => show (putL putS q.names).length ≤ _; rw [z2 hm]; decide +kernel
      | 3, _ => show (putL encF q.evs).length ≤ _; rw [z3 hm]; decide +kernel
theorem okQ_ok (h : okQ q) (hl : (putQ q).length ≤ 65528) : RqOk q := by
  obtain ⟨h1, h2, h3, h4⟩ := h
  rw [emp4] at h4
  obtain ⟨z0, z1, z2, z3⟩ := h4
  have hq : ((spk q.k).flatMap fun i => putF i q).length ≤ 65528 := by
    unfold putQ at hl
    rw [List.length_append, List.length_append] at hl; omega
  have hin : ∀ i, i ∈ spk q.k → (putF i q).length ≤ 65528 := fun i hi => by
    have := flat_mem_le (fun i => putF i q) hi
    omega
  have n0 := (putN_len 0).2
  have d : ∀ i, i < 4 → (putF i q).length ≤ 65528 := fun i hi => by
    by_cases hm : i ∈ spk q.k
    · exact hin i hm
    · match i, hi with
      | 0, _ => show (putS q.name).length ≤ _; rw [z0 hm]; decide +kernel
      | 1, _ => show (putS q.text).length ≤ _; rw [z1 hm]; decide +kernel
      | 2, _ => show (putL putS q.names).length ≤ _; rw [z2 hm]; decide +kernel
      | 3, _ => show (putL encF q.evs).length ≤ _; rw [z3 hm]; decide +kernel
  have hE : ∀ e ∈ q.evs, okE e := fun e he => by
    by_cases hm : 3 ∈ spk q.k
    · exact (h3 3 hm).2 e he
    · rw [z3 hm] at he; cases he
  have hEl : q.evs.length ≤ 65528 := by
    have h5 := d 3 (by omega)
    have e3 : (putF 3 q).length = (putN q.evs.length).length + (q.evs.flatMap encF).length := by
      show (putL encF q.evs).length = _
      unfold putL; rw [List.length_append]
    rw [encF_flat hE] at e3
    have := flat_ge (p := encE) (P := fun _ => True) (fun y _ => encE_pos y) (xs := q.evs) fun _ _ => trivial
    omega
  have hk1 := h1.1
  have hk2 := h1.2
  have d0 := d 0 (by omega)
  have d1 := d 1 (by omega)
  have d2 := d 2 (by omega)
  have d3 := d 3 (by omega)
  refine ⟨h2, ⟨by omega, by omega⟩, fun e he => ⟨(hE e he).2, ?_⟩, by omega, by omega⟩
  have := (fault0.1 (hE e he).1).2.2.2.1
  omega
theorem putL_ge {α : Type} {f : α → Bytes} (hf : ∀ x, 1 ≤ (f x).length) (xs : List α) : xs.length + 1 ≤ (putL f xs).length := by
  have h1 := flat_ge (p := f) (P := fun _ => True) (fun y _ => hf y) (xs := xs) fun _ _ => trivial
  have h2 := putN_pos xs.length
  unfold putL; rw [List.length_append]; omega
theorem putL_mem {α : Type} {f : α → Bytes} {xs : List α} {x : α} (h : x ∈ xs) : (f x).length + 1 ≤ (putL f xs).length := by
  have h1 := flat_mem_le f h
  have h2 := putN_pos xs.length
  unfold putL; rw [List.length_append]; omega
theorem encW_pos (v : Val) : 1 ≤ (encW v).length := by unfold encW; rw [List.length_cons]; omega
theorem okP_ok (h : okP u) (hl : (putP u).length ≤ 65528) : RpOk u := by
  have hs := (okP_iff.1 h).2
  exact ⟨h.id, h.err, h.at_, h.errs.2, fun x hx v hv => ((h.hits.2 x hx).2.2 v hv).2, fun x hx v hv => ((h.rows.2 x hx).2 v hv).2, h.since, h.open_, h.nodes, by rw [putW_ok hs]; omega⟩
theorem okQ_evs (h : okQ q) : ∀ e ∈ q.evs, okE e := by
  obtain ⟨h1, h2, h3, h4⟩ := h
  rw [emp4] at h4
  obtain ⟨z0, z1, z2, z3⟩ := h4
  intro e he
  by_cases hm : 3 ∈ spk q.k
  · exact (h3 3 hm).2 e he
  · rw [z3 hm] at he; cases he
theorem okQ_b (h : okQ q) (hl : (putQ q).length ≤ 65528) : QuB q := by
  have d := okQ_d h hl
  have hE := okQ_evs h
  have d2 : (putL putS q.names).length ≤ 65528 := d 2 (by omega)
  have d3 : (putL encF q.evs).length ≤ 65528 := d 3 (by omega)
  have g2 := putL_ge putS_pos q.names
  have e3 : (putL encF q.evs).length = (putN q.evs.length).length + (q.evs.flatMap encF).length := by unfold putL; rw [List.length_append]
  rw [encF_flat hE] at e3
  have g3 := flat_ge (p := encE) (P := fun _ => True) (fun y _ => encE_pos y) (xs := q.evs) fun _ _ => trivial
  refine ⟨by omega, by omega, fun e he => ?_⟩
  have := (fault0.1 (hE e he).1).2.2.2.1
  omega
theorem asked_b (bs : Bytes) : QuB (askedR bs).1 := by
  have z : QuB noRq := ⟨Nat.zero_le _, Nat.zero_le _, fun e he => by cases he⟩
  rcases asked_err bs with h | h | h
  · have h0 : askedR bs = ((askedR bs).1, 0) := by rw [← h]
    obtain ⟨h1, h2, h3⟩ := asked_ok.1 h0
    exact okQ_b h1 (by rw [← h2]; exact h3)
  · rw [h]; exact z
  · rw [h]; exact z
theorem asked_rq (h : (askedR bs).2 = 0) : RqOk (askedR bs).1 := by
  have h0 : askedR bs = ((askedR bs).1, 0) := by rw [← h]
  obtain ⟨h1, h2, h3⟩ := asked_ok.1 h0
  exact okQ_ok h1 (by rw [← h2]; exact h3)
theorem told_rp (h : (toldR bs).2 = 0) : RpOk (toldR bs).1 := by
  have h0 : toldR bs = ((toldR bs).1, 0) := by rw [← h]
  obtain ⟨h1, h2, h3⟩ := told_ok.1 h0
  exact okP_ok h1 (by rw [← h2]; exact h3)
theorem told_b (b : Bytes) : UuB (toldR b).1 := by
  have z : UuB noRp := ⟨Nat.zero_le _, Nat.zero_le _, (fun x hx => by cases hx), Nat.zero_le _, Nat.zero_le _, (fun x hx => by cases hx)⟩
  rcases told_err b with h | h | h
  · have h0 : toldR b = ((toldR b).1, 0) := by rw [← h]
    obtain ⟨_, h2, h3⟩ := told_ok.1 h0
    generalize (toldR b).1 = u at *
    rw [h2] at h3
    simp only [putP, List.length_append] at h3
    have h1 := putL_ge putN_pos u.errs
    have hp : ∀ y : Hi, 1 ≤ (putHi y).length := fun y => by unfold putHi; have := putS_pos y.q; rw [List.length_append]; omega
    have h2 := putL_ge hp u.hits
    have h3' := putL_ge putS_pos u.names
    have h4 := putL_ge (putL_pos encV) u.rows
    refine ⟨by omega, by omega, fun y hy => ?_, by omega, by omega, fun y hy => ?_⟩
    · have h5 := putL_mem (f := putHi) hy
      have h6 : (putHi y).length = (putS y.q).length + (putL encV y.row).length := by unfold putHi; rw [List.length_append]
      have h7 := putL_ge encV_pos y.row
      omega
    · have h5 := putL_mem (f := putL encV) hy
      have h7 := putL_ge encV_pos y
      omega
  · rw [h]; exact z
  · rw [h]; exact z
abbrev bytC : El Bytes := ⟨Sb, Sb.bs, 36, 1, sbV, fun s => BV s.a s.bs.length s.c s.bs, fun _ => rfl, fun s v hv => by simp [sbV] at hv; subst hv; rfl, by omega,
  fun F h s => Ro F h s.a (bytesV s.bs) ∧ s.bs.length ≤ s.c, fun r m hf => ⟨r.1.at m hf, r.2⟩, fun {_ _ _ _ s} k => ⟨(k.sl (a := s.a)).ro, (St.vec (a := s.a) k).1.le⟩⟩
theorem bytC.toE {xs : List Bytes} (r : RoX bytC F h a l xs) : RoX bytE F h a l xs := by
  obtain ⟨ss, q1, q2, q3, q4⟩ := r
  exact ⟨ss, q1, fun s hs => (q2 s hs).1, q3, q4⟩
theorem askR_len (q : Rq) : (askR q).1.length ≤ 65528 := by
  unfold askR
  split
  · exact Nat.zero_le _
  split
  · exact Nat.zero_le _
  split
  · exact Nat.zero_le _
  split
  · exact Nat.zero_le _
  · show (putQ q).length ≤ _
    omega
theorem tellR_len (u : Rp) : (tellR u).1.length ≤ 65528 := by
  unfold tellR
  split
  · exact Nat.zero_le _
  split
  · exact Nat.zero_le _
  · show (putW u).length ≤ _
    omega
theorem frameR_len (p : Bytes) : (frameR p).1.length ≤ 65536 := by
  unfold frameR
  split
  · exact Nat.zero_le _
  · show (frameB p).length ≤ _
    unfold frameB
    simp only [List.length_append]
    have h4 : ∀ n, (be4 n).length = 4 := fun n => rfl
    rw [h4, h4]; omega
theorem next_len {w p r : Bytes} (h : nextF w = .got p r) : p.length + 8 + r.length ≤ w.length := by
  unfold nextF at h
  split at h
  · cases h
  split at h
  · cases h
  split at h
  · cases h
  rename_i h3
  split at h
  · cases h
  cases h
  rw [List.length_take, List.length_drop, List.length_drop]
  omega
theorem cut_sum : ∀ (n : Nat) (w : Bytes), w.length < n → lensum (cut w).1 + 8 * (cut w).1.length + (cut w).2.1.length ≤ w.length
  | 0, _, h => absurd h (Nat.not_lt_zero _)
  | n + 1, w, h => by
    cases hn : nextF w with
    | more => rw [cut_more hn]; simp [lensum]
    | bad => rw [cut_bad hn]; simp [lensum]
    | got p r =>
      have h1 := next_len hn
      rw [cut_got hn]
      have ih := cut_sum n r (by omega)
      unfold lensum at *
      rw [List.map_cons, List.sum_cons, List.length_cons]
      show _ + _ + (cut r).2.1.length ≤ _
      omega
/-- A stream's answer is not more than what came. -/
theorem feed_sum (w : Bytes) (sp : Bool) (bs : Bytes) : lensum (feedR w sp bs).1 + 8 * (feedR w sp bs).1.length + (feedR w sp bs).2.2.1.length ≤ w.length + bs.length := by
  unfold feedR
  split
  · simp [lensum]
  · have := cut_sum ((w ++ bs).length + 1) (w ++ bs) (by omega)
    rw [List.length_append] at this
    exact this
theorem lensum_mem {xs : List Bytes} {x : Bytes} (h : x ∈ xs) : x.length ≤ lensum xs := by
  obtain ⟨j, hj⟩ := List.mem_iff_getElem?.1 h
  have h1 := lensum_next hj
  have h2 : lensum (xs.take (j + 1)) ≤ lensum xs := lsum_take xs (j + 1)
  omega
end Go.Proofs.YtgdgebmlcgohhaaGreatDoor.F
