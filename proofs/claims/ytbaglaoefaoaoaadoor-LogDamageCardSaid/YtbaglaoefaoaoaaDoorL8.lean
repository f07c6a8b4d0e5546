/- Package log: Open. Conditions: none. -/
import Derived.Test.YtbaglaoefaoaoaaDoorL7
namespace Go.Proofs.YtbaglaoefaoaoaaDoor.F
open Go Go.VC Go.Proofs
set_option linter.unusedSimpArgs false
set_option linter.unusedVariables false
set_option maxRecDepth 100000
attribute [local irreducible] CallsH RunsTo PureTo

variable {S F G : Nat → Prop} {h0 h h1 : Heap} {L R L' : List A} {a : Option Addr} {l c : Nat} {segs : List Bytes}
theorem wrap_succ32 (x : BitVec 32) : IntKind.u32.wrap ((x.toNat : Int) + 1) = ((x + 1#32).toNat : Int) := by
  rw [wrap_u32, BitVec.toNat_add]; show _ = (((x.toNat + 1) % 4294967296 : Nat) : Int); omega
theorem open_spec (hT : Tab none_ h) (hs : RoL none_ h a l segs) (hb : tot segs ≤ 274877906944) :
    CallsH Tryd.prog 14 #[.agg #[.slice a l c]] h (fun v h' => (openS segs = none ∧ v = .tuple #[.pointer none, .slice none 0 0, .int .i64 230] ∧ Ext h h') ∨
      (∃ st p ra rl rc, openS segs = some st ∧ v = .tuple #[.pointer (some ⟨p, 0, none⟩), .slice ra rl rc, .int .i64 0] ∧ St none_ h h' [LogA 81 83 p st.s, LV ra rl rc st.recs])) := by
  refine vf14 _ _ _ h _ ?_
  unfold F14
  have k := St.fresh h
  have htl := tot_len segs
  have hsl : segs.length = l := by obtain ⟨_, _, _, _, e⟩ := hs; exact e
  refine k.vnew fun b1 h1 k => k.vnew fun b3 h2 k => ⟨_, _, _, k.rd (by rfl), k.vnew fun b6 h3 k => ?_⟩
  refine CallsH.mono (twin_spec (k.rd (b := b6) (i := 0) (by rfl)) (hs.in k) (by omega)) ?_
  rintro _ h4 ⟨q, la, lc, rfl, k1⟩
  have k := k.add2 k1
  refine ⟨_, rfl, VSome.mk ⟨_, _, _, k.rd (by rfl), ?_⟩⟩
  refine k.vst (by simp) fun h5 k => ⟨_, _, _, k.rd (by rfl), ?_⟩
  have k : St none_ h h5 [A.blk b3 (logC la l lc none 0 0 (open0 segs).s).toArray 81, LV la l lc segs, LV none 0 0 []] := (k.lnil.sel 6 [4, 2, 0, 1, 3, 5] rfl (by decide) (by rfl) : St none_ h h5 [A.blk b3 (logC la l lc none 0 0 (open0 segs).s).toArray 81, LV la l lc segs, LV none 0 0 [], _, _, _]).perm (List.perm_append_comm (l₁ := [_, _, _]) (l₂ := [_, _, _])) |>.drop.drop.drop
  refine ⟨fun n hh _ _ _ _ _ ra rl rc last y => ∃ (j : Nat) (st : OpS), y = j ∧ j ≤ l ∧ n = l - j ∧ last = (st.last.toNat : Int) ∧ openL l (segs.drop j) j st = openS segs ∧ st.Ok segs j ∧
      St none_ h hh [A.blk b3 (logC la l lc none 0 0 st.s).toArray 81, LV la l lc segs, LV ra rl rc st.recs],
    ⟨_, 0, open0 segs, rfl, by omega, rfl, rfl, by rw [List.drop_zero]; unfold openS; rw [hsl], ⟨rfl, rfl, Int.le_refl _, by show (-1 : Int) < 0; omega, fun h => absurd h (by show ¬ (0 : Int) ≤ -1; omega), Nat.zero_le _, Nat.zero_le _⟩, k⟩, ?_⟩
  clear k k1
  rintro n hh _ _ _ _ _ _ ra rl rc last y ⟨j, st, rfl, hj, rfl, rfl, hopen, hok, k⟩
  refine cond_split (fun hc => ?_) (fun hc => ?_)
  · have hjl : j < l := Int.ofNat_lt.1 (of_decide_eq_true hc)
    clear hc
    refine ⟨fun h' _ _ _ _ _ ra rl rc last i _ _ _ _ _ => ∃ st' : OpS, openL l (segs.drop (j + 1)) (j + 1) st' = openS segs ∧ st'.Ok segs (j + 1) ∧ last = (st'.last.toNat : Int) ∧ i = (j : Int) ∧
      St none_ h h' [A.blk b3 (logC la l lc none 0 0 st'.s).toArray 81, LV la l lc segs, LV ra rl rc st'.recs], ?_, ?_⟩
    · refine (k.roL (a := la)).one (by omega) (by omega) fun ad x hx hcell hro hxl hxc => ⟨_, _, _, hcell, ?_⟩
      rw [Int.toNat_natCast] at hx
      have htx := tot_get hx
      have hdrop : segs.drop j = x.bs :: segs.drop (j + 1) := by
        obtain ⟨hlt, he⟩ := List.getElem?_eq_some_iff.1 hx
        rw [List.drop_eq_getElem_cons hlt, he]
      rw [hdrop] at hopen
      replace hopen : openS segs = (openStep l j st x.bs).bind (openL l (segs.drop (j + 1)) (j + 1)) := hopen.symm
      refine CallsH.mono (read_spec (hT.in k) hro.sl hxl hxc (by omega)) ?_
      rintro _ h6 (⟨hr, ⟨_, _, _, _, _, _, rfl⟩, m6⟩ | ⟨r, r1, r2, r3, hr, rfl, k2⟩)
      · have k := k.next m6
        refine ⟨_, _, _, _, _, _, _, rfl, k.vnew fun b36 h7 k => ?_⟩
        refine k.vall (by rfl) (by rfl) fun h8 k => cond_true rfl (.inl ⟨?_, rfl, k.ext⟩)
        rw [hopen]; unfold openStep; rw [hr]; rfl
      have k := k.add1 k2
      have hr2 := (LV.len k).1
      have htr := readS_tot hr
      refine ⟨_, _, _, _, _, _, _, rfl, k.vnew fun b36 h7 k => ?_⟩
      refine k.vall (by rfl) (by rfl) fun h8 k => cond_false rfl ⟨_, _, _, k.rd (by rfl), ?_⟩
      have efr : IntKind.u32.wrap (r2 : Int) = ((BitVec.ofNat 32 r.recs.length).toNat : Int) := by
        rw [wrap_u32, BitVec.toNat_ofNat, ← hr2]; omega
      have ew : decide ((j : Int) < IntKind.i64.wrap ((l : Int) - 1)) = decide (j + 1 < l) := by
        rw [wrap_id (by omega) (by omega)]
        by_cases hd : j + 1 < l
        · rw [decide_eq_true hd]; exact decide_eq_true (by omega)
        · rw [decide_eq_false hd]; exact decide_eq_false (by omega)
      rw [ew, wrap_succ32]
      refine cond_split (fun hc => ?_) (fun hc => ?_)
      · have hlast : j + 1 < l := of_decide_eq_true hc
        clear hc
        refine ⟨_, _, _, k.rd (by rfl), cond_split (fun hc => ?_) (fun hc => ?_)⟩
        · have hr0 : r.recs = [] := by
            have : (r2 : Int) = 0 := by simpa using hc
            exact List.eq_nil_of_length_eq_zero (by omega)
          refine .inl ⟨?_, rfl, k.ext⟩
          rw [hopen]; unfold openStep; rw [hr]; simp only
          rw [if_pos (.inl ⟨hlast, hr0⟩)]; rfl
        have hr0 : r.recs ≠ [] := by
          intro h0
          rw [h0] at hr2
          simp at hr2
          subst hr2
          simp at hc
        clear hc
        refine ⟨_, k.rd (by rfl), cond_split (fun hs1 => ?_) (fun hs1 => ?_)⟩
        · refine cond_split (fun hp => ?_) (fun hp => ?_)
          · have hj0 : 0 < j := by
              have : (j : Int) > 0 := of_decide_eq_true hp
              omega
            refine ⟨_, k.rd (by rfl), ?_⟩
            rw [ne32]
            refine cond_split (fun hq => ?_) (fun hq => ?_)
            · have hnum : r.num ≠ st.last + 1#32 := of_decide_eq_true hq
              refine .inl ⟨?_, rfl, k.ext⟩
              rw [hopen]; unfold openStep; rw [hr]; simp only
              rw [if_pos (.inr ⟨by simpa using hs1, hj0, hnum⟩)]; rfl
            · have hnum : r.num = st.last + 1#32 := by simpa using of_decide_eq_false hq
              have hno : ¬ ((j + 1 < l ∧ r.recs = []) ∨ (r.short = false ∧ 0 < j ∧ r.num ≠ st.last + 1#32)) := by
                rintro (⟨_, h1⟩ | ⟨_, _, h1⟩)
                · exact hr0 h1
                · exact h1 hnum
              have hstep : openStep l j st x.bs = if r.recs = [] then some { st with last := r.num } else some ⟨{ st.s with cur := j, num := r.num, frames := BitVec.ofNat 32 r.recs.length, fin := r.fin }, r.recs, r.num⟩ := by
                unfold openStep
                rw [hr]
                simp only
                rw [if_neg hno]
              refine ⟨_, k.rd (by rfl), _, _, _, k.rd (by rfl), ?_⟩
              refine cond_split (fun hc => ?_) (fun hc => ?_)
              · have hne : r.recs ≠ [] := by
                  have h1 : (r2 : Int) > 0 := of_decide_eq_true hc
                  intro h2; rw [h2] at hr2; simp at hr2; omega
                rw [if_neg hne] at hstep
                repeat' first
                  | ((with_reducible show VSome _ _); refine VSome.mk ?_)
                  | ((with_reducible show Exists _); refine ⟨_, St.rd k (by rfl), ?_⟩)
                  | ((with_reducible show Exists _); refine ⟨_, _, _, St.rd k (by rfl), ?_⟩)
                  | ((with_reducible show storeL _ _ _ _ _); refine St.vall k (by rfl) (by rfl) fun _ k => ?_)
                  | ((with_reducible show VStore _ _ _ _); refine St.vst k (Nat.le_of_ble_eq_true (by rfl)) fun _ k => ?_)
                  | ((with_reducible show And _ _); refine ⟨St.rd k (by rfl), ?_⟩)
                rw [efr] at k
                exact ⟨_, by rw [hopen, hstep]; rfl, openStep_ok hok hx hstep, rfl, rfl, St.drop (a := LV ra rl rc st.recs) (k.drop.sel 4 [3, 1, 2, 0] rfl (by decide) (by rfl))⟩
              · have hne : r.recs = [] := by
                  have h1 : ¬ (r2 : Int) > 0 := of_decide_eq_false hc
                  exact List.eq_nil_of_length_eq_zero (by omega)
                rw [if_pos hne] at hstep
                refine ⟨_, ?_, openStep_ok hok hx hstep, rfl, rfl, ?_⟩
                · rw [hopen, hstep]; rfl
                · exact k.drop.drop
          · have hno : ¬ ((j + 1 < l ∧ r.recs = []) ∨ (r.short = false ∧ 0 < j ∧ r.num ≠ st.last + 1#32)) := by
              rintro (⟨_, h1⟩ | ⟨_, h2, h1⟩)
              · exact hr0 h1
              · exact absurd (show (j : Int) > 0 by omega) (of_decide_eq_false hp)
            have hstep : openStep l j st x.bs = if r.recs = [] then some { st with last := r.num } else some ⟨{ st.s with cur := j, num := r.num, frames := BitVec.ofNat 32 r.recs.length, fin := r.fin }, r.recs, r.num⟩ := by
              unfold openStep
              rw [hr]
              simp only
              rw [if_neg hno]
            refine ⟨_, k.rd (by rfl), _, _, _, k.rd (by rfl), ?_⟩
            refine cond_split (fun hc => ?_) (fun hc => ?_)
            · have hne : r.recs ≠ [] := by
                have h1 : (r2 : Int) > 0 := of_decide_eq_true hc
                intro h2; rw [h2] at hr2; simp at hr2; omega
              rw [if_neg hne] at hstep
              repeat' first
                | ((with_reducible show VSome _ _); refine VSome.mk ?_)
                | ((with_reducible show Exists _); refine ⟨_, St.rd k (by rfl), ?_⟩)
                | ((with_reducible show Exists _); refine ⟨_, _, _, St.rd k (by rfl), ?_⟩)
                | ((with_reducible show storeL _ _ _ _ _); refine St.vall k (by rfl) (by rfl) fun _ k => ?_)
                | ((with_reducible show VStore _ _ _ _); refine St.vst k (Nat.le_of_ble_eq_true (by rfl)) fun _ k => ?_)
                | ((with_reducible show And _ _); refine ⟨St.rd k (by rfl), ?_⟩)
              rw [efr] at k
              exact ⟨_, by rw [hopen, hstep]; rfl, openStep_ok hok hx hstep, rfl, rfl, St.drop (a := LV ra rl rc st.recs) (k.drop.sel 4 [3, 1, 2, 0] rfl (by decide) (by rfl))⟩
            · have hne : r.recs = [] := by
                have h1 : ¬ (r2 : Int) > 0 := of_decide_eq_false hc
                exact List.eq_nil_of_length_eq_zero (by omega)
              rw [if_pos hne] at hstep
              refine ⟨_, ?_, openStep_ok hok hx hstep, rfl, rfl, ?_⟩
              · rw [hopen, hstep]; rfl
              · exact k.drop.drop
        · have hno : ¬ ((j + 1 < l ∧ r.recs = []) ∨ (r.short = false ∧ 0 < j ∧ r.num ≠ st.last + 1#32)) := by
            rintro (⟨_, h1⟩ | ⟨h2, _, h1⟩)
            · exact hr0 h1
            · rw [h2] at hs1; cases hs1
          have hstep : openStep l j st x.bs = if r.recs = [] then some { st with last := r.num } else some ⟨{ st.s with cur := j, num := r.num, frames := BitVec.ofNat 32 r.recs.length, fin := r.fin }, r.recs, r.num⟩ := by
            unfold openStep
            rw [hr]
            simp only
            rw [if_neg hno]
          refine ⟨_, k.rd (by rfl), _, _, _, k.rd (by rfl), ?_⟩
          refine cond_split (fun hc => ?_) (fun hc => ?_)
          · have hne : r.recs ≠ [] := by
              have h1 : (r2 : Int) > 0 := of_decide_eq_true hc
              intro h2; rw [h2] at hr2; simp at hr2; omega
            rw [if_neg hne] at hstep
            repeat' first
              | ((with_reducible show VSome _ _); refine VSome.mk ?_)
              | ((with_reducible show Exists _); refine ⟨_, St.rd k (by rfl), ?_⟩)
              | ((with_reducible show Exists _); refine ⟨_, _, _, St.rd k (by rfl), ?_⟩)
              | ((with_reducible show storeL _ _ _ _ _); refine St.vall k (by rfl) (by rfl) fun _ k => ?_)
              | ((with_reducible show VStore _ _ _ _); refine St.vst k (Nat.le_of_ble_eq_true (by rfl)) fun _ k => ?_)
              | ((with_reducible show And _ _); refine ⟨St.rd k (by rfl), ?_⟩)
            rw [efr] at k
            exact ⟨_, by rw [hopen, hstep]; rfl, openStep_ok hok hx hstep, rfl, rfl, St.drop (a := LV ra rl rc st.recs) (k.drop.sel 4 [3, 1, 2, 0] rfl (by decide) (by rfl))⟩
          · have hne : r.recs = [] := by
              have h1 : ¬ (r2 : Int) > 0 := of_decide_eq_false hc
              exact List.eq_nil_of_length_eq_zero (by omega)
            rw [if_pos hne] at hstep
            refine ⟨_, ?_, openStep_ok hok hx hstep, rfl, rfl, ?_⟩
            · rw [hopen, hstep]; rfl
            · exact k.drop.drop
      · have hlast : ¬ j + 1 < l := of_decide_eq_false hc
        clear hc
        refine ⟨_, k.rd (by rfl), cond_split (fun hs1 => ?_) (fun hs1 => ?_)⟩
        · refine cond_split (fun hp => ?_) (fun hp => ?_)
          · have hj0 : 0 < j := by
              have : (j : Int) > 0 := of_decide_eq_true hp
              omega
            refine ⟨_, k.rd (by rfl), ?_⟩
            rw [ne32]
            refine cond_split (fun hq => ?_) (fun hq => ?_)
            · have hnum : r.num ≠ st.last + 1#32 := of_decide_eq_true hq
              refine .inl ⟨?_, rfl, k.ext⟩
              rw [hopen]; unfold openStep; rw [hr]; simp only
              rw [if_pos (.inr ⟨by simpa using hs1, hj0, hnum⟩)]; rfl
            · have hnum : r.num = st.last + 1#32 := by simpa using of_decide_eq_false hq
              have hno : ¬ ((j + 1 < l ∧ r.recs = []) ∨ (r.short = false ∧ 0 < j ∧ r.num ≠ st.last + 1#32)) := by
                rintro (⟨h1, _⟩ | ⟨_, _, h1⟩)
                · exact hlast h1
                · exact h1 hnum
              have hstep : openStep l j st x.bs = if r.recs = [] then some { st with last := r.num } else some ⟨{ st.s with cur := j, num := r.num, frames := BitVec.ofNat 32 r.recs.length, fin := r.fin }, r.recs, r.num⟩ := by
                unfold openStep
                rw [hr]
                simp only
                rw [if_neg hno]
              refine ⟨_, k.rd (by rfl), _, _, _, k.rd (by rfl), ?_⟩
              refine cond_split (fun hc => ?_) (fun hc => ?_)
              · have hne : r.recs ≠ [] := by
                  have h1 : (r2 : Int) > 0 := of_decide_eq_true hc
                  intro h2; rw [h2] at hr2; simp at hr2; omega
                rw [if_neg hne] at hstep
                repeat' first
                  | ((with_reducible show VSome _ _); refine VSome.mk ?_)
                  | ((with_reducible show Exists _); refine ⟨_, St.rd k (by rfl), ?_⟩)
                  | ((with_reducible show Exists _); refine ⟨_, _, _, St.rd k (by rfl), ?_⟩)
                  | ((with_reducible show storeL _ _ _ _ _); refine St.vall k (by rfl) (by rfl) fun _ k => ?_)
                  | ((with_reducible show VStore _ _ _ _); refine St.vst k (Nat.le_of_ble_eq_true (by rfl)) fun _ k => ?_)
                  | ((with_reducible show And _ _); refine ⟨St.rd k (by rfl), ?_⟩)
                rw [efr] at k
                exact ⟨_, by rw [hopen, hstep]; rfl, openStep_ok hok hx hstep, rfl, rfl, St.drop (a := LV ra rl rc st.recs) (k.drop.sel 4 [3, 1, 2, 0] rfl (by decide) (by rfl))⟩
              · have hne : r.recs = [] := by
                  have h1 : ¬ (r2 : Int) > 0 := of_decide_eq_false hc
                  exact List.eq_nil_of_length_eq_zero (by omega)
                rw [if_pos hne] at hstep
                refine ⟨_, ?_, openStep_ok hok hx hstep, rfl, rfl, ?_⟩
                · rw [hopen, hstep]; rfl
                · exact k.drop.drop
          · have hno : ¬ ((j + 1 < l ∧ r.recs = []) ∨ (r.short = false ∧ 0 < j ∧ r.num ≠ st.last + 1#32)) := by
              rintro (⟨h1, _⟩ | ⟨_, h2, h1⟩)
              · exact hlast h1
              · exact absurd (show (j : Int) > 0 by omega) (of_decide_eq_false hp)
            have hstep : openStep l j st x.bs = if r.recs = [] then some { st with last := r.num } else some ⟨{ st.s with cur := j, num := r.num, frames := BitVec.ofNat 32 r.recs.length, fin := r.fin }, r.recs, r.num⟩ := by
              unfold openStep
              rw [hr]
              simp only
              rw [if_neg hno]
            refine ⟨_, k.rd (by rfl), _, _, _, k.rd (by rfl), ?_⟩
            refine cond_split (fun hc => ?_) (fun hc => ?_)
            · have hne : r.recs ≠ [] := by
                have h1 : (r2 : Int) > 0 := of_decide_eq_true hc
                intro h2; rw [h2] at hr2; simp at hr2; omega
              rw [if_neg hne] at hstep
              repeat' first
                | ((with_reducible show VSome _ _); refine VSome.mk ?_)
                | ((with_reducible show Exists _); refine ⟨_, St.rd k (by rfl), ?_⟩)
                | ((with_reducible show Exists _); refine ⟨_, _, _, St.rd k (by rfl), ?_⟩)
                | ((with_reducible show storeL _ _ _ _ _); refine St.vall k (by rfl) (by rfl) fun _ k => ?_)
                | ((with_reducible show VStore _ _ _ _); refine St.vst k (Nat.le_of_ble_eq_true (by rfl)) fun _ k => ?_)
                | ((with_reducible show And _ _); refine ⟨St.rd k (by rfl), ?_⟩)
              rw [efr] at k
              exact ⟨_, by rw [hopen, hstep]; rfl, openStep_ok hok hx hstep, rfl, rfl, St.drop (a := LV ra rl rc st.recs) (k.drop.sel 4 [3, 1, 2, 0] rfl (by decide) (by rfl))⟩
            · have hne : r.recs = [] := by
                have h1 : ¬ (r2 : Int) > 0 := of_decide_eq_false hc
                exact List.eq_nil_of_length_eq_zero (by omega)
              rw [if_pos hne] at hstep
              refine ⟨_, ?_, openStep_ok hok hx hstep, rfl, rfl, ?_⟩
              · rw [hopen, hstep]; rfl
              · exact k.drop.drop
        · have hno : ¬ ((j + 1 < l ∧ r.recs = []) ∨ (r.short = false ∧ 0 < j ∧ r.num ≠ st.last + 1#32)) := by
            rintro (⟨h1, _⟩ | ⟨h2, _, h1⟩)
            · exact hlast h1
            · rw [h2] at hs1; cases hs1
          have hstep : openStep l j st x.bs = if r.recs = [] then some { st with last := r.num } else some ⟨{ st.s with cur := j, num := r.num, frames := BitVec.ofNat 32 r.recs.length, fin := r.fin }, r.recs, r.num⟩ := by
            unfold openStep
            rw [hr]
            simp only
            rw [if_neg hno]
          refine ⟨_, k.rd (by rfl), _, _, _, k.rd (by rfl), ?_⟩
          refine cond_split (fun hc => ?_) (fun hc => ?_)
          · have hne : r.recs ≠ [] := by
              have h1 : (r2 : Int) > 0 := of_decide_eq_true hc
              intro h2; rw [h2] at hr2; simp at hr2; omega
            rw [if_neg hne] at hstep
            repeat' first
              | ((with_reducible show VSome _ _); refine VSome.mk ?_)
              | ((with_reducible show Exists _); refine ⟨_, St.rd k (by rfl), ?_⟩)
              | ((with_reducible show Exists _); refine ⟨_, _, _, St.rd k (by rfl), ?_⟩)
              | ((with_reducible show storeL _ _ _ _ _); refine St.vall k (by rfl) (by rfl) fun _ k => ?_)
              | ((with_reducible show VStore _ _ _ _); refine St.vst k (Nat.le_of_ble_eq_true (by rfl)) fun _ k => ?_)
              | ((with_reducible show And _ _); refine ⟨St.rd k (by rfl), ?_⟩)
            rw [efr] at k
            exact ⟨_, by rw [hopen, hstep]; rfl, openStep_ok hok hx hstep, rfl, rfl, St.drop (a := LV ra rl rc st.recs) (k.drop.sel 4 [3, 1, 2, 0] rfl (by decide) (by rfl))⟩
          · have hne : r.recs = [] := by
              have h1 : ¬ (r2 : Int) > 0 := of_decide_eq_false hc
              exact List.eq_nil_of_length_eq_zero (by omega)
            rw [if_pos hne] at hstep
            refine ⟨_, ?_, openStep_ok hok hx hstep, rfl, rfl, ?_⟩
            · rw [hopen, hstep]; rfl
            · exact k.drop.drop
    · rintro h9 _ _ _ _ _ _ ra rl rc last i _ _ _ _ _ ⟨st', e1, e2, rfl, rfl, k⟩
      exact ⟨_, by omega, j + 1, st', wrap_nat hjl (by omega), hjl, rfl, rfl, e1, e2, k⟩
  · have hjl : j = l := by
      have : ¬ (j : Int) < l := of_decide_eq_false hc
      omega
    subst hjl
    rw [List.drop_of_length_le (by omega)] at hopen
    have hS : openS segs = some st := hopen.symm
    obtain ⟨k1, k2, _⟩ := hok
    refine .inr ⟨st, b3, ra, rl, rc, hS, rfl, ?_⟩
    refine LogA.close (s := st.s) (sa := la) (sl := j) (sc := lc) (wa := none) (wl := 0) (wc := 0) (xs := []) (by rw [k2]; rfl) ?_
    rw [k1]
    exact ((k.vnil 83 (sz := 3) (by omega)).all0).sel 5 [2, 3, 1, 0, 4] rfl (by decide) (by rfl)
end Go.Proofs.YtbaglaoefaoaoaaDoor.F
