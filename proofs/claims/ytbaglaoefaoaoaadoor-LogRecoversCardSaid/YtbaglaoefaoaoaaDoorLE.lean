/- The laws of the log: both logs over a disk. Conditions: none. -/
import Derived.Test.YtbaglaoefaoaoaaDoorLD
namespace Go.Proofs.YtbaglaoefaoaoaaDoor.F
open Go Go.VC Go.Proofs
set_option linter.unusedSimpArgs false
set_option linter.unusedVariables false
set_option maxRecDepth 100000
attribute [local irreducible] CallsH RunsTo PureTo

variable {S F G : Nat → Prop} {h0 h h1 : Heap} {L R L' : List A} {a b la wa : Option Addr} {l c l2 c2 p cl cw : Nat} {bs cs : List UInt8} {bss css : List Bytes}
theorem untouched_spec {xs ms : List Sg} (hls : Sl h la (xs.map preV ++ ms.map sgV)) (hw : Sl h wa (xs.map sgV)) (hx : ∀ x ∈ xs, Sl h x.a (bytesV x.bs) ∧ x.bs.length = x.l) (hm : ∀ x ∈ ms, Sl h x.a (bytesV x.bs) ∧ x.bs.length = x.l)
    (hxb : xs.map Sg.bs = bss.map roomB) (hmb : ms.map Sg.bs = List.replicate 70 [204]) (hd : RoL none_ h a l bss) (hb : tot bss ≤ 137438953472) :
    CallsH Tryd.prog 28 #[.slice la (l + 70) cl, .slice wa l cw, .agg #[.slice a l c]] h (fun v h' => v = .bool true ∧ Ext h h') := by
  refine vf28 _ _ _ _ _ _ _ _ _ h _ ?_
  unfold F28
  have k := St.fresh h
  have htl := tot_len bss
  have hsl : bss.length = l := by obtain ⟨_, _, _, _, e⟩ := hd; exact e
  have hxl : xs.length = l := by rw [← hsl, ← List.length_map (f := Sg.bs), hxb, List.length_map]
  have hml : ms.length = 70 := by rw [← List.length_map (f := Sg.bs), hmb, List.length_replicate]
  refine k.vnew fun b1 h1 k => ⟨_, _, _, k.rd (by rfl), ?_⟩
  refine ⟨fun n hh _ i => ∃ q : Nat, i = q ∧ q ≤ 70 ∧ n = 70 - q ∧ St none_ h hh [A.blk b1 #[.slice a l c] 34], ⟨_, 0, rfl, by omega, rfl, k⟩, ?_⟩
  clear k
  rintro n hh _ _ i ⟨q, rfl, hq, rfl, k⟩
  refine cond_split (fun hc => ?_) (fun hc => ?_)
  · have hq70 : q < 70 := by
      have : (q : Int) < 70 := of_decide_eq_true hc
      omega
    have ei : IntKind.i64.wrap ((l : Int) + (q : Int)) = ((l + q : Nat) : Int) := by rw [wrap_id (by omega) (by omega)]; omega
    rw [ei]
    obtain ⟨y, hy⟩ : ∃ y, ms[q]? = some y := ⟨_, List.getElem?_eq_getElem (by omega)⟩
    have hyb : y.bs = [204] := by
      have h1 : (ms.map Sg.bs)[q]? = some y.bs := by rw [List.getElem?_map, hy]; rfl
      rw [hmb, List.getElem?_replicate, if_pos hq70] at h1
      exact (Option.some.inj h1).symm
    obtain ⟨y1, y2⟩ := hm y (List.mem_of_getElem? hy)
    have hyl : y.l = 1 := by rw [← y2, hyb]; rfl
    have hcell : (xs.map preV ++ ms.map sgV)[l + q]? = some (sgV y) := by
      rw [List.getElem?_append_right (by rw [List.length_map]; omega), List.length_map, hxl, Nat.add_sub_cancel_left, List.getElem?_map, hy]; rfl
    have key : ∀ {K : Addr → Prop}, (∀ ad, cellH hh ad = some (sgV y) → K ad) → VIdx la (l + 70) ((l + q : Nat) : Int) 1 K := fun r => by
      refine ⟨by omega, by omega, ?_⟩
      obtain ⟨ad, h1, h2⟩ := (hls.ro.in k).sl (l + q) _ hcell
      subst h1
      refine VSome.mk (r _ ?_)
      rw [Int.toNat_natCast, Nat.mul_one]; exact h2
    refine key fun ad hc1 => ⟨_, _, _, hc1, ?_⟩
    rw [hyl]
    refine cond_false rfl (key fun ad2 hc2 => ⟨_, _, _, hc2, ?_⟩)
    rw [hyl]
    have y1' := (y1.ro.in k).sl
    rw [hyb] at y1'
    refine y1'.one (f := byteV) rfl (by omega) (by omega) fun ad3 x hx3 hc3 => ⟨_, hc3, ?_⟩
    cases hx3
    refine cond_false rfl ⟨_, by omega, q + 1, wrap_nat hq70 (by omega), hq70, rfl, k⟩
  · clear hc hq
    refine ⟨fun n hh _ i => ∃ j : Nat, i = j ∧ j ≤ l ∧ n = l - j ∧ St none_ h hh [A.blk b1 #[.slice a l c] 34], ⟨_, 0, rfl, by omega, rfl, k⟩, ?_⟩
    clear k
    rintro n hh _ _ i ⟨j, rfl, hj, rfl, k⟩
    refine cond_split (fun hc => ?_) (fun hc => ⟨rfl, k.ext⟩)
    have hjl : j < l := Int.ofNat_lt.1 (of_decide_eq_true hc)
    obtain ⟨z, hz⟩ : ∃ z, xs[j]? = some z := ⟨_, List.getElem?_eq_getElem (by omega)⟩
    obtain ⟨z1, z2⟩ := hx z (List.mem_of_getElem? hz)
    refine (hw.ro.in k).sl.one hxl (by omega) (by omega) fun ad z' hz' hc1 => ?_
    rw [Int.toNat_natCast, hz] at hz'
    cases hz'
    refine ⟨_, _, _, hc1, _, _, _, k.rd (by rfl), (hd.in k).one (by omega) (by omega) fun ad2 x hx2 hc2 r1 r2 r3 => ⟨_, _, _, hc2, ?_⟩⟩
    rw [Int.toNat_natCast] at hx2
    have htx := tot_get hx2
    have hzb : z.bs = roomB x.bs := by
      have h1 : (xs.map Sg.bs)[j]? = some z.bs := by rw [List.getElem?_map, hz]; rfl
      rw [hxb, List.getElem?_map, hx2] at h1
      exact (Option.some.inj h1).symm
    have hzl : z.l = x.l + 70 := by rw [← z2, hzb, roomB_len, r2]
    refine CallsH.mono (roomy_spec r1.sl r2 (by omega)) ?_
    rintro _ h3 ⟨a3, c3, rfl, k3⟩
    have k := k.add1 k3
    refine ⟨_, _, _, rfl, cellH_mod hc1 k3.ext id, ?_⟩
    refine CallsH.mono (sameBytes_spec (z1.ro.in k).sl z2 (k.sl (a := a3)) (by rw [roomB_len, r2]) (by omega)) ?_
    rintro _ _ ⟨rfl, rfl⟩
    rw [hzb, decide_eq_true rfl]
    refine ⟨_, rfl, ?_⟩
    have hcell : (xs.map preV ++ ms.map sgV)[j]? = some (preV z) := by
      rw [List.getElem?_append_left (by rw [List.length_map]; omega), List.getElem?_map, hz]; rfl
    refine ⟨by omega, by omega, ?_⟩
    obtain ⟨ad4, h4, hc4⟩ := (hls.ro.in k).sl j _ hcell
    rw [h4]
    refine VSome.mk ?_
    rw [Int.toNat_natCast, Nat.mul_one]
    refine ⟨_, _, _, hc4, _, _, _, k.rd (by rfl), (hd.in k).one (by omega) (by omega) fun ad5 x' hx5 hc5 s1 s2 s3 => ⟨_, _, _, hc5, ?_⟩⟩
    rw [Int.toNat_natCast, hx2] at hx5
    have hx5 := Option.some.inj hx5
    have hpre : ∀ hh', Ext h hh' → Sl hh' z.a (bytesV x.bs) := fun hh' m => by
      have h6 := z1.ext m
      rw [hzb, roomB, bytesV_app] at h6
      exact h6.ro.pre.sl
    refine CallsH.mono (sameBytes_spec (hpre _ k.ext) (by rw [r2, hzl]; omega) s1.sl s2 (by omega)) ?_
    rintro _ _ ⟨rfl, rfl⟩
    rw [hx5, decide_eq_true rfl]
    exact ⟨_, rfl, cond_false rfl (cond_false rfl ⟨_, by omega, j + 1, wrap_nat hjl (by omega), hjl, rfl, k.pull1.only⟩)⟩
/-- One row of many. -/
theorem allAt {xs : List Sg} {x : Sg} {i : Nat} (hx : xs[i]? = some x) (k : St S h0 h (A.all (xs.map BS) :: R)) : St S h0 h (BS x :: A.all ((xs.take i ++ xs.drop (i + 1)).map BS) :: R) := by
  have e : xs = xs.take i ++ x :: xs.drop (i + 1) := by
    obtain ⟨hlt, he⟩ := List.getElem?_eq_some_iff.1 hx
    rw [← he, ← List.drop_eq_getElem_cons hlt, List.take_append_drop]
  have p : (xs.map BS).Perm ((x :: (xs.take i ++ xs.drop (i + 1))).map BS) := by
    refine List.Perm.map _ ?_
    conv => lhs; rw [e]
    exact List.perm_middle
  exact (k.allPerm p).allOut
theorem allBack {xs : List Sg} {x : Sg} {i : Nat} (hi : i < xs.length) (k : St S h0 h (BS x :: A.all ((xs.take i ++ xs.drop (i + 1)).map BS) :: R)) : St S h0 h (A.all ((xs.set i x).map BS) :: R) := by
  have e : xs.set i x = xs.take i ++ x :: xs.drop (i + 1) := by
    rw [List.set_eq_take_append_cons_drop, if_pos hi]
  refine k.allIn.allPerm (L := (x :: (xs.take i ++ xs.drop (i + 1))).map BS) (List.Perm.map _ ?_)
  rw [e]
  exact List.perm_middle.symm
theorem BS.put {x : Sg} {g o i : Nat} {b : UInt8} (k : St S h0 h (BS x :: R)) (ha : x.a = some ⟨g, o, none⟩) (hi : i < x.l) {K : Heap → Prop} (q : ∀ h', St S h0 h' (BS { x with bs := x.bs.set i b } :: R) → K h') : VStore h ⟨g, o + i, none⟩ (byteV b) K := by
  have k : St S h0 h (A.vec 5 1 (some ⟨g, o, none⟩) x.l x.c (bytesV x.bs) :: R) := by rw [← ha]; exact k
  refine St.vset (P := Tryd.prog) k hi fun h' k => q h' ?_
  have e : (bytesV x.bs).set i (byteV b) = bytesV (x.bs.set i b) := by simp [bytesV, List.map_set]
  rw [e, ← ha] at k
  exact k
theorem RoL.nil (F : Nat → Prop) (h : Heap) : RoL F h none 0 [] := ⟨[], .nil _ _ _, by simp, rfl, rfl⟩
/-- The rows of a twin are a disk. -/
theorem tw_roL {xs : List Sg} {ms : List Sg} (hls : Sl h la (xs.map preV ++ ms.map sgV)) (hx : ∀ x ∈ xs, Sl h x.a (bytesV x.bs) ∧ x.bs.length = x.l) (hxb : xs.map Sg.bs = bss.map roomB) (hl : bss.length = l) : RoL none_ h la l bss := by
  have hxl : xs.length = l := by rw [← hl, ← List.length_map (f := Sg.bs), hxb, List.length_map]
  refine ⟨xs.map fun x => ⟨x.a, x.l - 70, x.l, x.bs.take (x.l - 70)⟩, ?_, ?_, ?_, hl⟩
  · have e : (xs.map fun x => (⟨x.a, x.l - 70, x.l, x.bs.take (x.l - 70)⟩ : Sg)).map sgV = xs.map preV := by
      rw [List.map_map]; rfl
    rw [e]
    exact hls.ro.pre
  · intro y hy
    obtain ⟨x, hx', rfl⟩ := List.mem_map.1 hy
    obtain ⟨h1, h2⟩ := hx x hx'
    refine ⟨?_, ?_, Nat.sub_le _ _⟩
    · have := h1.ro.take (x.l - 70)
      rwa [show (bytesV x.bs).take (x.l - 70) = bytesV (x.bs.take (x.l - 70)) by simp [bytesV, List.map_take]] at this
    · simp only [List.length_take]; omega
  · rw [List.map_map]
    apply List.ext_getElem?
    intro i
    rw [List.getElem?_map]
    cases hi : xs[i]? with
    | none =>
      have : xs.length ≤ i := List.getElem?_eq_none_iff.1 hi
      rw [List.getElem?_eq_none (by omega)]; rfl
    | some x =>
      have h1 : (xs.map Sg.bs)[i]? = some x.bs := by rw [List.getElem?_map, hi]; rfl
      rw [hxb, List.getElem?_map] at h1
      obtain ⟨b, hb, he⟩ := Option.map_eq_some_iff.1 h1
      rw [hb]
      have h2 := (hx x (List.mem_of_getElem? hi)).2
      have h3 : x.l - 70 = b.length := by rw [← h2, ← he, roomB_len]; omega
      show some (x.bs.take (x.l - 70)) = some b
      rw [h3, ← he, roomB, List.take_left]
theorem opened_tail {m : PlM} {ys ms : List Sg} {b9 : Nat} {K : Heap → Prop} (hl : m.xs.length = l) (hrows : ∀ x ∈ m.xs, 70 ≤ x.l) (hlb : l < 9223372036854775807)
    (k : St S h0 h (A.blk b9 #[.slice la l (l + 70)] 34 :: A.blk p #[.slice m.sa m.sl m.sc, .slice m.ra m.rl m.rc] 28 :: BV m.ra m.rl m.rc m.rb :: A.vec 26 1 m.sa m.sl m.sc ((m.xs ++ ys).map sgV) :: A.all (m.xs.map BS) :: A.all (ys.map BS) :: A.vec 26 1 la (l + 70) cl (m.xs.map preV ++ ms.map sgV) :: R))
    (q : ∀ h', St S h0 h' (PlA p :: R) → K h') :
    (∃ I31 : Nat → Heap → Int → Prop, (∃ n32, I31 n32 h 0) ∧
          ∀ (n32 : Nat) (h33 : Heap) (g34 : Env) (i_35 : Int), I31 n32 h33 i_35 →
          ∃ (a37 : Option Addr) (la37 ca37 : Nat), cellH h33 ⟨b9, 0, none⟩ = some (.slice a37 la37 ca37) ∧
          cond (decide (i_35 < (la37 : Int)))
          (∃ I38 : Nat → Heap → Int → Prop, (∃ n39, I38 n39 h33 0) ∧
            ∀ (n39 : Nat) (h40 : Heap) (g41 : Env) (k_42 : Int), I38 n39 h40 k_42 →
            ∃ (a44 : Option Addr) (la44 ca44 : Nat), cellH h40 ⟨b9, 0, none⟩ = some (.slice a44 la44 ca44) ∧
            VIdx a44 la44 i_35 1 fun a45 =>
            ∃ (a46 : Option Addr) (la46 ca46 : Nat), cellH h40 a45 = some (.slice a46 la46 ca46) ∧
            cond (decide (k_42 < (la46 : Int)))
            (∃ (a47 : Option Addr) (la47 ca47 : Nat), cellH h40 ⟨b9, 0, none⟩ = some (.slice a47 la47 ca47) ∧
              VIdx a47 la47 i_35 1 fun a48 =>
              ∃ (a49 : Option Addr) (la49 ca49 : Nat), cellH h40 a48 = some (.slice a49 la49 ca49) ∧
              VIdx a49 la49 k_42 1 fun a50 =>
              VStore h40 a50 (.int .u8 238) fun h51 =>
              ∃ m43, m43 < n39 ∧ I38 m43 h51 (IntKind.i64.wrap (k_42 + 1)))
            (∃ m36, m36 < n32 ∧ I31 m36 h40 (IntKind.i64.wrap (i_35 + 1))))
          (K h33)) := by
  have hst : ∃ n, ∃ (j : Nat) (xs : List Sg), (0 : Int) = j ∧ j ≤ l ∧ n = l - j ∧ xs.map sgV = m.xs.map sgV ∧ St S h0 h (A.blk b9 #[.slice la l (l + 70)] 34 :: A.blk p #[.slice m.sa m.sl m.sc, .slice m.ra m.rl m.rc] 28 :: BV m.ra m.rl m.rc m.rb :: A.vec 26 1 m.sa m.sl m.sc ((m.xs ++ ys).map sgV) :: A.all (xs.map BS) :: A.all (ys.map BS) :: A.vec 26 1 la (l + 70) cl (m.xs.map preV ++ ms.map sgV) :: R) :=
    ⟨_, 0, m.xs, rfl, by omega, rfl, rfl, k⟩
  refine ⟨fun n hh i => ∃ (j : Nat) (xs : List Sg), i = j ∧ j ≤ l ∧ n = l - j ∧ xs.map sgV = m.xs.map sgV ∧ St S h0 hh (A.blk b9 #[.slice la l (l + 70)] 34 :: A.blk p #[.slice m.sa m.sl m.sc, .slice m.ra m.rl m.rc] 28 :: BV m.ra m.rl m.rc m.rb :: A.vec 26 1 m.sa m.sl m.sc ((m.xs ++ ys).map sgV) :: A.all (xs.map BS) :: A.all (ys.map BS) :: A.vec 26 1 la (l + 70) cl (m.xs.map preV ++ ms.map sgV) :: R), hst, ?_⟩
  clear hst k
  rintro n hh _ i ⟨j, xs, rfl, hj, rfl, hxs, k⟩
  refine ⟨_, _, _, k.rd (by rfl), cond_split (fun hc => ?_) (fun hc => ?_)⟩
  · have hjl : j < l := Int.ofNat_lt.1 (of_decide_eq_true hc)
    obtain ⟨z, hz⟩ : ∃ z, m.xs[j]? = some z := ⟨_, List.getElem?_eq_getElem (by omega)⟩
    have hz70 := hrows z (List.mem_of_getElem? hz)
    have hcell : (m.xs.map preV ++ ms.map sgV)[j]? = some (preV z) := by
      rw [List.getElem?_append_left (by rw [List.length_map]; omega), List.getElem?_map, hz]; rfl
    have key : ∀ {hh : Heap} {K : Addr → Prop}, Sl hh la (m.xs.map preV ++ ms.map sgV) → (∀ ad, cellH hh ad = some (preV z) → K ad) → VIdx la l (j : Int) 1 K := fun r q => by
      refine ⟨by omega, by omega, ?_⟩
      obtain ⟨ad, h1, h2⟩ := r j _ hcell
      subst h1
      refine VSome.mk (q _ ?_)
      rw [Int.toNat_natCast, Nat.mul_one]; exact h2
    refine ⟨fun n hh i => ∃ (e : Nat) (xs : List Sg), i = e ∧ e ≤ z.l - 70 ∧ n = z.l - 70 - e ∧ xs.map sgV = m.xs.map sgV ∧ St S h0 hh (A.blk b9 #[.slice la l (l + 70)] 34 :: A.blk p #[.slice m.sa m.sl m.sc, .slice m.ra m.rl m.rc] 28 :: BV m.ra m.rl m.rc m.rb :: A.vec 26 1 m.sa m.sl m.sc ((m.xs ++ ys).map sgV) :: A.all (xs.map BS) :: A.all (ys.map BS) :: A.vec 26 1 la (l + 70) cl (m.xs.map preV ++ ms.map sgV) :: R),
      ⟨_, 0, xs, rfl, by omega, rfl, hxs, k⟩, ?_⟩
    clear k hxs xs
    rintro n hh _ i ⟨e, xs, rfl, he, rfl, hxs, k⟩
    refine ⟨_, _, _, k.rd (by rfl), key (k.sl (a := la)) fun ad hc1 => ⟨_, _, _, hc1, ?_⟩⟩
    refine cond_split (fun hd => ?_) (fun hd => ?_)
    · have hel : e < z.l - 70 := Int.ofNat_lt.1 (of_decide_eq_true hd)
      refine ⟨_, _, _, k.rd (by rfl), key (k.sl (a := la)) fun ad2 hc2 => ⟨_, _, _, hc2, ?_⟩⟩
      have hxj : (xs.map sgV)[j]? = some (sgV z) := by rw [hxs, List.getElem?_map, hz]; rfl
      rw [List.getElem?_map] at hxj
      obtain ⟨y, hy, hyz⟩ := Option.map_eq_some_iff.1 hxj
      simp only [sgV, Value.slice.injEq] at hyz
      obtain ⟨ya, yl, yc⟩ := hyz
      have k := allAt hy k.pull4
      have hby := BS.len k
      obtain ⟨g, o, hg⟩ := k.vaddr (by omega)
      rw [← ya, hg]
      refine vidx_at hel ?_
      refine BS.put (b := 238) k hg (by omega) fun h' k => ?_
      refine ⟨_, ?_, e + 1, xs.set j { y with bs := y.bs.set e 238 }, wrap_nat hel (by omega), hel, rfl, ?_, ?_⟩
      · omega
      · rw [List.map_set, ← hxs]
        apply List.ext_getElem?
        intro i
        rw [List.getElem?_set]
        split
        · rename_i e1
          subst e1
          rw [List.length_map]
          rw [if_pos (List.getElem?_eq_some_iff.1 hy).1, List.getElem?_map, hy]; rfl
        · rfl
      · exact (allBack (List.getElem?_eq_some_iff.1 hy).1 k).pull4.pull4.pull4.pull4
    · have hel : e = z.l - 70 := by
        have : ¬ (e : Int) < ((z.l - 70 : Nat) : Int) := of_decide_eq_false hd
        omega
      exact ⟨_, by omega, j + 1, xs, wrap_nat hjl (by omega), hjl, rfl, hxs, k⟩
  · refine q _ ?_
    have k : St S h0 hh (A.blk p #[.slice m.sa m.sl m.sc, .slice m.ra m.rl m.rc] 28 :: BV m.ra m.rl m.rc m.rb :: A.vec 26 1 m.sa m.sl m.sc ((m.xs ++ ys).map sgV) :: A.all ((xs ++ ys).map BS) :: R) := by
      rw [List.map_append (f := BS)]
      exact (k.drop.pull4.pull4.allJoin.pull4.drop.pull3.pull3.pull3)
    have e : (m.xs ++ ys).map sgV = (xs ++ ys).map sgV := by rw [List.map_append, List.map_append, hxs]
    rw [e] at k
    exact St.closes (f := fun m : PlM => A.all [A.blk p #[.slice m.sa m.sl m.sc, .slice m.ra m.rl m.rc] 28, BV m.ra m.rl m.rc m.rb, A.vec 26 1 m.sa m.sl m.sc (m.xs.map sgV), A.all (m.xs.map BS)]) (x := { m with xs := xs ++ ys }) (St.close (L := [_, _, _, _]) k)
theorem opened_spec (k : Holds [PlA p] F h) (hT : Tab F h) (hd : RoL F h a l bss) (hb : tot bss ≤ 137438953472) :
    CallsH Tryd.prog 9 #[.pointer (some ⟨p, 0, none⟩), .agg #[.slice a l c]] h (fun v h' => (openS bss = none ∧ v = .tuple #[.pointer none, .pointer none, .bool true] ∧ St F h h' [PlA p]) ∨
      (∃ st q1 q2, openS bss = some st ∧ v = .tuple #[.pointer (some ⟨q1, 0, none⟩), .pointer (some ⟨q2, 0, none⟩), .bool true] ∧ St F h h' [PlA p, LogA 81 83 q1 st.s, LogA 101 107 q2 st.s])) := by
  refine vf9 _ _ _ _ h _ ?_
  unfold F9
  have k := St.start k
  have hsl : bss.length = l := by obtain ⟨_, _, _, _, e⟩ := hd; exact e
  have htl := tot_len bss
  refine k.vnew fun b1 h1 k => ⟨_, _, _, k.rd (by rfl), ?_⟩
  obtain ⟨F', G, k1, kG, _, hF, back⟩ := St.frame (L := [PlA p]) (R := [A.blk b1 #[.slice a l c] 34]) k.pull1
  refine CallsH.mono (placed_spec k1 (hd.at k.ext hF) hb) ?_
  rintro _ h2 ⟨m, ys, ms, la, cl, wa, cw, rfl, hxb, hmb, k2⟩
  have k := back k2
  simp only [TwL, List.cons_append, List.nil_append] at k
  have hxl : m.xs.length = l := by rw [← hsl, ← List.length_map (f := Sg.bs), hxb, List.length_map]
  refine ⟨_, _, _, _, _, _, _, _, _, rfl, k.vnew fun b9 h3 k => ?_⟩
  refine k.vst (by simp) fun h4 k => ⟨_, _, _, k.rd (by rfl), ?_⟩
  have hrow : ∀ x ∈ m.xs, Sl h4 x.a (bytesV x.bs) ∧ x.bs.length = x.l := fun x hx => by
    obtain ⟨r1, r2, _⟩ := allBS_ro k.pull4 hx
    exact ⟨r1.sl, r2⟩
  have hmrow : ∀ x ∈ ms, Sl h4 x.a (bytesV x.bs) ∧ x.bs.length = x.l := fun x hx => by
    obtain ⟨r1, r2, _⟩ := allBS_ro k.pull7 hx
    exact ⟨r1.sl, r2⟩
  have hrl : ∀ x ∈ m.xs, 70 ≤ x.l := fun x hx => by
    have h1 : x.bs ∈ bss.map roomB := hxb ▸ List.mem_map_of_mem hx
    obtain ⟨b, _, he⟩ := List.mem_map.1 h1
    have h2 := (hrow x hx).2
    rw [← he, roomB_len] at h2; omega
  have hsla := k.sl (a := la)
  have hslw := k.sl (a := wa)
  have hro := tw_roL hsla hrow hxb hsl
  refine CallsH.mono (open_spec (hT.in k) hro (by omega)) ?_
  have hru : ∀ {h5 : Heap}, Ext h4 h5 → CallsH Tryd.prog 28 #[.slice la (l + 70) cl, .slice wa l cw, .agg #[.slice a l c]] h5 (fun v h' => v = .bool true ∧ Ext h5 h') := fun {h5} m5 =>
    untouched_spec (hsla.ext m5) (hslw.ext m5) (fun x hx => ⟨(hrow x hx).1.ext m5, (hrow x hx).2⟩) (fun x hx => ⟨(hmrow x hx).1.ext m5, (hmrow x hx).2⟩) hxb hmb ((hd.in (k.next m5))) hb
  rintro _ h5 (⟨hS, rfl, m5⟩ | ⟨st, q1, ra, rl, rc, hS, rfl, k5⟩)
  · have k := k.next m5
    refine ⟨_, _, _, _, _, rfl, _, _, _, k.rd (by rfl), CallsH.mono (ropen_spec (hd.in k) (by omega)) ?_⟩
    rintro _ h6 (⟨hS2, rfl, m6⟩ | ⟨st2, q2, _, _, _, hS2, rfl, k6⟩)
    · have k := k.next m6
      refine ⟨_, _, _, _, _, rfl, cond_false rfl (cond_false rfl (CallsH.mono (sameLists_spec (.nil _ _) (.nil _ _) (Nat.zero_le _)) ?_))⟩
      rintro _ _ ⟨rfl, rfl⟩
      refine ⟨_, rfl, cond_false rfl ⟨_, _, _, k.rd (by rfl), CallsH.mono (hru (m5.then m6)) ?_⟩⟩
      rintro _ h7 ⟨rfl, m7⟩
      have k := k.next m7
      refine ⟨_, rfl, cond_false rfl ?_⟩
      exact opened_tail hxl hrl (by omega) k fun h8 k => .inl ⟨hS, rfl, k.only⟩
    · rw [hS] at hS2; cases hS2
  · have k := k.add2 k5
    refine ⟨_, _, _, _, _, rfl, _, _, _, k.rd (by rfl), CallsH.mono (ropen_spec (hd.in k) (by omega)) ?_⟩
    rintro _ h6 (⟨hS2, rfl, m6⟩ | ⟨st2, q2, sa2, sl2, sc2, hS2, rfl, k6⟩)
    · rw [hS] at hS2; cases hS2
    · have e : st = st2 := by rw [hS] at hS2; exact Option.some.inj hS2
      subst e
      have k := k.add2 k6
      obtain ⟨_, _, _, ht, _⟩ := openS_ok hS
      refine ⟨_, _, _, _, _, rfl, cond_false rfl (cond_false rfl (CallsH.mono (sameLists_spec (k.roL (a := ra)) (k.roL (a := sa2)) (by omega)) ?_))⟩
      rintro _ _ ⟨rfl, rfl⟩
      refine ⟨_, rfl, cond_false (by simp) ⟨_, _, _, k.rd (by rfl), CallsH.mono (hru (k5.ext.then k6.ext)) ?_⟩⟩
      rintro _ h7 ⟨rfl, m7⟩
      have k := k.next m7
      refine ⟨_, rfl, cond_false rfl ?_⟩
      exact opened_tail hxl hrl (by omega) (k.pull10.pull10.pull10.pull10.pull10.pull10.pull10) fun h8 k => .inr ⟨st, q1, q2, hS, rfl, k.pull3.pull1.only3⟩
end Go.Proofs.YtbaglaoefaoaoaaDoor.F
