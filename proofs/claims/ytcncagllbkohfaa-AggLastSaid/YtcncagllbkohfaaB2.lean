/- Package agg: AggLast answers true. Conditions: none. -/
import Derived.Test.YtcncagllbkohfaaB1
namespace Go.Proofs.Ytcncagllbkohfaa.F
open Go Go.VC Go.Proofs
set_option linter.unusedSimpArgs false
set_option linter.unusedVariables false
set_option maxRecDepth 100000
attribute [local irreducible] CallsH RunsTo PureTo

theorem last_spec (size : Int) (ns : List Int) (p1 : Option Addr) (l1 c1 : Nat) (ps : List Int) (p2 : Option Addr) (l2 c2 : Nat) (h : Heap) (hs1 : Sl h p1 (ints ns)) (hl1 : ns.length = l1) (hs2 : Sl h p2 (ps.map (.int .u8))) (hl2 : ps.length = l2) (hb1 : l1 < 140737488355328) (hb2 : l2 < 140737488355328) :
    CallsH Try.prog 5 #[.int .i64 size, .slice p1 l1 c1, .slice p2 l2 c2] h (fun v h' => v = .bool true ∧ Ext h h') := by
  refine vf5 _ _ _ _ _ _ _ h _ ?_
  unfold F5
  refine CallsH.mono (begun_spec h) ?_
  rintro _ h1 ⟨rfl, m1⟩
  refine ⟨_, rfl, cond_false rfl ?_⟩
  refine ⟨fun h' sz => h' = h1 ∧ newP sz, ?_, ?_⟩
  · refine cond_split (fun hc => ⟨rfl, by unfold newP; omega⟩) (fun hc => cond_split (fun hd => ⟨rfl, by unfold newP; omega⟩) (fun hd => ⟨rfl, ?_⟩))
    have e1 : ¬ size < 1 := by simpa using hc
    have e2 : ¬ size > 4096 := by simpa using hd
    unfold newP; omega
  rintro h1 _ sz ⟨rfl, hn⟩
  have hn1 := hn.1
  have hn2 := hn.2
  refine CallsH.mono (sl_new sz h1) ?_
  rintro _ h2 (⟨hn', _⟩ | ⟨_, b, rfl, k1, m2, hb⟩)
  · exact absurd hn hn'
  have k0 : StE h h2 b sz none 0 0 [] [] := ⟨_, k1, Vec.nil _ _ _, fun z hz => by have := m1.size; omega, by simp [ob], m1.then m2⟩
  clear k1 hb m1 m2
  refine ⟨_, _, rfl, cond_false rfl (cond_false rfl ?_)⟩
  refine ⟨fun n hh y p l c i => ∃ (k : Nat) (held : List Int), i = k ∧ k ≤ l1 ∧ n = l1 - k ∧ StE h hh b sz p l c held held, ⟨_, 0, [], rfl, by omega, rfl, k0⟩, ?_⟩
  clear k0
  rintro n hh _ y p l c i ⟨k, held, rfl, hk, rfl, st⟩
  refine cond_split (fun hc => ?_) (fun hc => ?_)
  · -- one number more
    have hkl : k < l1 := by simpa using hc
    refine hs1.int (st_ext st) hl1 (by omega) (by omega) fun ad n hn' hcell => ⟨_, hcell, ?_⟩
    refine CallsH.mono (st_push st n) ?_
    rintro _ h3 ⟨rfl, st⟩
    refine ⟨rfl, hs1.int (st_ext st) hl1 (by omega) (by omega) fun ad' n' hn2' hcell' => ⟨_, hcell', ?_⟩⟩
    have hnn : n' = n := by rw [hn'] at hn2'; cases hn2'; rfl
    subst hnn
    refine VNew.mk fun b2 h4 _ hB2 m4 _ => ?_
    have hsz := st_sz st
    replace st := st.next m4
    have hlen := st_len st
    have hheld : (held.length : Int) ≤ sz := by
      have := hsz.2
      unfold pushH at this
      split at this
      · omega
      · rw [List.length_append] at this; simp only [List.length_cons, List.length_nil] at this; omega
    refine st_app st (by omega) hB2 fun a' c' h5 st => ⟨_, _, _, rfl, ?_⟩
    clear hB2 hcell hcell'
    refine ⟨fun h' p l c => StE h h' b sz p l c (pushH sz held n') (pushH sz held n'), ?_, ?_⟩
    · refine cond_split (fun hd => ?_) (fun hd => ?_)
      · have hd' : ((l + 1 : Nat) : Int) > sz := of_decide_eq_true hd
        have hls : (held.length : Int) = sz := by omega
        refine st_tail st (by simp) fun a'' st => ?_
        have e : (held ++ [n']).tail = pushH sz held n' := by
          unfold pushH
          rw [if_pos hls, List.tail_append_of_ne_nil]
          rintro rfl
          simp only [List.length_nil] at hls; omega
        rw [e] at st
        exact st
      · have hd' : ¬ ((l + 1 : Nat) : Int) > sz := of_decide_eq_false hd
        have e : held ++ [n'] = pushH sz held n' := by
          unfold pushH
          rw [if_neg (by omega)]
        rw [e] at st
        exact st
    rintro h6 _ p6 l6 c6 st
    generalize pushH sz held n' = held1 at st
    clear hheld hlen hsz m4
    refine ⟨fun h' k => h' = h6 ∧ k ≤ 3, ?_, ?_⟩
    · refine cond_split (fun hd => ?_) (fun hd => ⟨rfl, by omega⟩)
      have hd' : k < l2 := by simpa using hd
      refine ⟨by omega, by omega, ?_⟩
      obtain ⟨ad, hp, hcell⟩ := hs2 k (.int .u8 ps[k]) (by simp [List.getElem?_eq_getElem (show k < ps.length by omega)])
      subst hp
      refine VSome.mk ⟨_, cellH_mod (by simpa using hcell) (st_ext st) id, by omega, rfl, ?_⟩
      have := Int.tmod_lt_of_pos (IntKind.i64.wrap ps[k]) (show (0 : Int) < 4 by omega)
      omega
    rintro h6 _ kp ⟨rfl, hkp⟩
    refine ⟨fun n hh y p l c kk => ∃ held : List Int, kk ≤ 3 ∧ n = kk.toNat ∧ StE h hh b sz p l c held held, ⟨_, held1, hkp, rfl, st⟩, ?_⟩
    clear st
    rintro n2 h7 _ y2 p7 l7 c7 k7 ⟨held2, hk7, rfl, st⟩
    have hlen := st_len st
    refine cond_split (fun hd => ?_) (fun hd => ?_)
    · have hd' : k7 > 1 := of_decide_eq_true hd
      refine ⟨fun h' y p l c f => StE h h' b sz p l c held2.tail held2.tail, ?_, ?_⟩
      · refine CallsH.mono (st_pop st) ?_
        rintro _ h8 ⟨rfl, st⟩
        refine ⟨_, rfl, ?_⟩
        refine cond_split (fun he => ?_) (fun he => ?_)
        · have hnil : held2 = [] := List.eq_nil_of_length_eq_zero (by rw [hlen]; simpa using he)
          subst hnil
          exact cond_false rfl st
        · have hne : held2 ≠ [] := by
            rintro rfl
            simp only [List.length_nil] at hlen
            subst hlen
            cases he
          refine st_tail st hne fun a'' st => ?_
          rw [if_neg hne]
          exact cond_false rfl st
      · rintro h9 _ y9 p9 l9 c9 f9 st
        refine ⟨(k7 - 1).toNat, by omega, _, ?_, ?_, st⟩
        · rw [wrap_id (by omega) (by omega)]; omega
        · rw [wrap_id (by omega) (by omega)]
    · refine CallsH.mono (st_acc st) ?_
      rintro _ h8 ⟨rfl, st⟩
      refine ⟨_, _, _, _, rfl, CallsH.mono (st_plain st ?_) ?_⟩
      · have := st_sz st; omega
      rintro _ h9 ⟨rfl, st⟩
      refine ⟨_, _, _, _, rfl, ?_⟩
      refine acc_neq (a := plainA held2) (b := plainA held2) ⟨_, rfl, ?_⟩
      rw [eqA_self]
      refine cond_false rfl ⟨l1 - (k + 1), by omega, k + 1, held2, wrap_nat hkl (by omega), hkl, rfl, st⟩
  · -- at the end
    refine ⟨fun n hh y p l c => ∃ held : List Int, n = l ∧ StE h hh b sz p l c held held, ⟨_, held, rfl, st⟩, ?_⟩
    clear st
    rintro n2 h3 _ y3 p3 l3 c3 ⟨held, rfl, st⟩
    have hlen := st_len st
    refine cond_split (fun hd => ?_) (fun hd => ?_)
    · have hd' : (n2 : Int) > 0 := of_decide_eq_true hd
      have hne : held ≠ [] := by
        rintro rfl
        simp only [List.length_nil] at hlen; omega
      refine CallsH.mono (st_acc st) ?_
      rintro _ h4 ⟨rfl, st⟩
      refine ⟨_, _, _, _, rfl, CallsH.mono (st_plain st ?_) ?_⟩
      · have := st_sz st; omega
      rintro _ h5 ⟨rfl, st⟩
      refine ⟨_, _, _, _, rfl, ?_⟩
      refine acc_neq (a := plainA held) (b := plainA held) ⟨_, rfl, ?_⟩
      rw [eqA_self]
      refine cond_false rfl ?_
      refine CallsH.mono (st_pop st) ?_
      rintro _ h6 ⟨rfl, st⟩
      refine ⟨_, rfl, ?_⟩
      rw [if_neg hne]
      refine cond_false rfl (st_tail st hne fun a'' st => ⟨n2 - 1, by omega, _, rfl, st⟩)
    · have hnil : held = [] := by
        have hd' : ¬ ((n2 : Int) > 0) := of_decide_eq_false hd
        exact List.eq_nil_of_length_eq_zero (by omega)
      subst hnil
      refine CallsH.mono (st_pop st) ?_
      rintro _ h6 ⟨rfl, st⟩
      refine ⟨_, rfl, cond_true rfl ?_⟩
      refine CallsH.mono (st_acc st) ?_
      rintro _ h7 ⟨rfl, st⟩
      refine ⟨_, _, _, _, rfl, ?_⟩
      exact acc_eql (a := .z) (b := .z) ⟨_, rfl, rfl, st_ext st⟩
end Go.Proofs.Ytcncagllbkohfaa.F
