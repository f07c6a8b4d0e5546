/- The document's log: what lies down, writes. Conditions: none. -/
import Derived.Test.YtbaglaoefaoaoaaDoorLA
namespace Go.Proofs.YtbaglaoefaoaoaaDoor.F
open Go Go.VC Go.Proofs
set_option linter.unusedSimpArgs false
set_option linter.unusedVariables false
set_option maxRecDepth 100000
attribute [local irreducible] CallsH RunsTo PureTo

variable {S F G : Nat → Prop} {h0 h h1 : Heap} {L R L' : List A} {a : Option Addr} {l c : Nat} {bs : List UInt8} {bss : List (List UInt8)} {t te p : Nat} {s : LogS}
theorem allBS_ro {xs : List Sg} {x : Sg} (k : St S h0 h (A.all (xs.map BS) :: R)) (hx : x ∈ xs) : Ro none_ h x.a (bytesV x.bs) ∧ x.bs.length = x.l ∧ x.l ≤ x.c := by
  obtain ⟨F, G, k1, _⟩ := k.frameA
  obtain ⟨F', k3, hs⟩ := (show Holds (xs.map BS) F h from k1.one).get (List.mem_map_of_mem hx)
  refine ⟨A.vec_ro k3 fun b hb => hb.elim, ?_, k3.1.le⟩
  have := k3.1.len
  rwa [bytesV_len, Nat.mul_one] at this
theorem zero_steps (d : List Bytes) : ∀ ws : List Wr, ws.foldl stepD (d, 0) = (d, 0)
  | [] => rfl
  | w :: ws => by
    rw [List.foldl_cons]
    have : stepD (d, 0) w = (d, 0) := by
      unfold stepD
      simp only [Nat.zero_min, Nat.sub_zero]
      rfl
    rw [this, zero_steps d ws]
theorem rlies_spec (keep : Int) (hs : LogRo none_ h p s) (hok : okD s.segs s.ws) (hb : s.big ≤ 549755813888) (hk : keep < 9223372036854775808) :
    CallsH Tryd.prog 53 #[.pointer (some ⟨p, 0, none⟩), .int .i64 keep] h (fun v h' => ∃ a' l' c', v = .slice a' l' c' ∧ St none_ h h' [LV a' l' c' (downS s.segs s.ws keep.toNat)]) := by
  obtain ⟨sa, sl, sc, wa, wl, wc, q1, q2, xs, q3, q4, q5, q6⟩ := hs
  refine vf53 _ _ h _ ?_
  unfold F53
  have hbig : tot s.segs + wtot s.ws ≤ 549755813888 := hb
  have hwl := wtot_len s.ws
  have hxl : xs.length = wl := by rw [← q6, ← q5, List.length_map]
  refine VSome.mk ⟨_, _, _, LogRo.rd q1 0 _ rfl, CallsH.mono (rclone_spec q2 (by omega)) ?_⟩
  rintro _ h1 ⟨a1, c1, rfl, st⟩
  refine ⟨_, _, _, rfl, ?_⟩
  refine ⟨fun n hh kk d ld cd i => ∃ j : Nat, i = j ∧ j ≤ wl ∧ n = wl - j ∧ kk ≤ keep ∧ kk.toNat = ((s.ws.take j).foldl stepD (s.segs, keep.toNat)).2 ∧ St none_ h hh [LV d ld cd ((s.ws.take j).foldl stepD (s.segs, keep.toNat)).1],
    ⟨_, 0, rfl, by omega, rfl, Int.le_refl _, rfl, st⟩, ?_⟩
  clear st
  rintro n hh _ kk d ld cd i ⟨j, rfl, hj, rfl, hkk, hk', st⟩
  refine VSome.mk ⟨_, _, _, LogRo.rd (q1.in st) 1 _ rfl, ?_⟩
  refine cond_split (fun hc => ?_) (fun hc => ?_)
  rotate_left
  · have hjl : j = wl := by
      have : ¬ (j : Int) < wl := of_decide_eq_false hc
      omega
    subst hjl
    rw [List.take_of_length_le (by omega)] at st
    exact ⟨_, _, _, rfl, st⟩
  have hjl : j < wl := Int.ofNat_lt.1 (of_decide_eq_true hc)
  clear hc
  refine cond_split (fun hc => ?_) (fun hc => ?_)
  rotate_left
  · have hz : kk.toNat = 0 := by
      have : ¬ kk > 0 := of_decide_eq_false hc
      omega
    refine ⟨_, _, _, rfl, ?_⟩
    have e : s.ws.foldl stepD (s.segs, keep.toNat) = (s.ws.take j).foldl stepD (s.segs, keep.toNat) := by
      have h1 := List.foldl_append (f := stepD) (b := (s.segs, keep.toNat)) (l := s.ws.take j) (l' := s.ws.drop j)
      rw [List.take_append_drop] at h1
      rw [h1]
      generalize (s.ws.take j).foldl stepD (s.segs, keep.toNat) = acc at *
      obtain ⟨x, y⟩ := acc
      simp only at hk'
      have : y = 0 := by omega
      subst this
      exact zero_steps _ _
    unfold downS
    rw [e]; exact st
  have hpos : 0 < kk := of_decide_eq_true hc
  clear hc
  refine VSome.mk ⟨_, _, _, LogRo.rd (q1.in st) 1 _ rfl, ?_⟩
  refine (q3.in st).sl.row wrC_len (by omega) hxl (by omega) (by omega) fun ad x hx get => ⟨_, get 0 _ rfl, _, get 1 _ rfl, _, _, _, get 2 _ rfl, ?_⟩
  rw [Int.toNat_natCast] at hx
  obtain ⟨r1, r2, r3⟩ := q4 x (List.mem_of_getElem? hx)
  have hw : s.ws[j]? = some (wrS x) := by rw [← q5, List.getElem?_map, hx]; rfl
  have hwm := wtot_mem (List.mem_of_getElem? hw)
  have hxlen : (wrS x).2.2.length = x.2.2.l := r2
  refine st.vnew fun b h2 st => ?_
  refine st.vall (by rfl) (by rfl) fun h3 st => ?_
  refine ⟨_, _, _, st.rd (by rfl), ?_⟩
  have htot := tot_steps (s.ws.take j) (s.segs, keep.toNat)
  have hwj := wtot_le s.ws j
  have hfs := full_steps (s.ws.take j) (s.segs, keep.toNat)
  have hnx : (s.ws.take (j + 1)).foldl stepD (s.segs, keep.toNat) = stepD ((s.ws.take j).foldl stepD (s.segs, keep.toNat)) (wrS x) := by
    rw [take_next hw, List.foldl_append]; rfl
  generalize hst : (s.ws.take j).foldl stepD (s.segs, keep.toNat) = acc at *
  obtain ⟨dd, y⟩ := acc
  simp only at hk' htot hfs st
  have hoj := hok j _ hw
  have hdd : dd = fullD s.segs (s.ws.take j) := hfs (by omega)
  rw [← hdd] at hoj
  obtain ⟨ho1, ho2, ho3⟩ := hoj
  have ho3 : x.2.2.l ≠ 0 := fun h0 => ho3 (List.eq_nil_of_length_eq_zero (by rw [hxlen, h0]))
  have ho1 : x.1 ≤ dd.length := ho1
  have ho2 : x.2.1 ≤ (dd.getD x.1 []).length := ho2
  have htl := tot_len dd
  have hgl := getD_len_tot dd x.1
  refine ⟨fun h' n => n = ((min y x.2.2.l : Nat) : Int) ∧ h' = h3, cond_split (fun hc => ⟨?_, rfl⟩) (fun hc => ⟨?_, rfl⟩), ?_⟩
  · have : (x.2.2.l : Int) > kk := of_decide_eq_true hc
    omega
  · have : ¬ (x.2.2.l : Int) > kk := of_decide_eq_false hc
    omega
  rintro _ _ _ ⟨rfl, rfl⟩
  obtain ⟨ds, hds, st⟩ := LV.open st.pull1
  have hdl : ds.length = dd.length := by rw [← hds, List.length_map]
  have hld : dd.length = ld := by
    have h1 := (St.vec (a := d) st).1.len
    rw [List.length_map, Nat.mul_one] at h1; omega
  refine ⟨fun n hh m lm cm i => ∃ j' : Nat, i = j' ∧ j' ≤ x.1 ∧ n = x.1 - j' ∧ j' = lm ∧ St none_ h hh [A.vec 26 1 m lm cm ((ds.take j').map sgV), A.blk b #[.int .i64 x.1, .int .i64 x.2.1, sgV x.2.2] 107, A.vec 26 1 d ld cd (ds.map sgV), A.all (ds.map BS)],
    ⟨_, 0, rfl, by omega, rfl, rfl, (st.vnil 26 (sz := 1) (by omega)).sel 4 [0, 3, 1, 2] rfl (by decide) (by rfl)⟩, ?_⟩
  clear st
  rintro n hh _ m lm cm i ⟨j', rfl, hj', rfl, rfl, st⟩
  refine ⟨_, st.rd (by rfl), cond_split (fun hc => ?_) (fun hc => ?_)⟩
  · have hjl' : j' < x.1 := by
      have : (j' : Int) < x.1 := of_decide_eq_true hc
      omega
    refine (st.sl (a := d)).one (by omega) (by omega) (by omega) fun ad z hz hcell => ⟨_, _, _, hcell, st.vnew fun b2 h5 st => ?_⟩
    rw [Int.toNat_natCast] at hz
    have hsl : Sl h5 (some ⟨b2, 0, none⟩) [sgV z] := st.slB (b := b2)
    refine st.pull1.app T25 und25 (by simp) (Src.slice hsl rfl) (oneC_sg [z]) (by omega) fun m2 cm2 h6 st => ⟨_, _, _, rfl, _, ?_, j' + 1, wrap_nat hjl' (by omega), hjl', rfl, rfl, ?_⟩
    · omega
    · rw [take_next hz, List.map_append]; exact st.pull1.drop
  · have hjl' : j' = x.1 := by
      have : ¬ (j' : Int) < x.1 := of_decide_eq_false hc
      omega
    subst hjl'
    clear hc
    refine ⟨fun h' s' ls' cs' => St none_ h h' [BV s' ls' cs' ((dd.getD x.1 []).take x.2.1), A.vec 26 1 m x.1 cm ((ds.take x.1).map sgV), A.blk b #[.int .i64 x.1, .int .i64 x.2.1, sgV x.2.2] 107, A.vec 26 1 d ld cd (ds.map sgV), A.all (ds.map BS)],
      ⟨_, st.rd (by rfl), cond_split (fun hc => ?_) (fun hc => ?_)⟩, ?_⟩
    · have hlt : x.1 < ld := by
        have : (x.1 : Int) < ld := of_decide_eq_true hc
        omega
      refine ⟨_, st.rd (by rfl), (st.sl (a := d)).one (by omega) (by omega) (by omega) fun ad z hz hcell => ⟨_, _, _, hcell, _, st.rd (by rfl), ?_⟩⟩
      rw [Int.toNat_natCast] at hz
      obtain ⟨z1, z2, z3⟩ := allBS_ro st.pull3 (List.mem_of_getElem? hz)
      have hzb : dd.getD x.1 [] = z.bs := by
        rw [← hds, List.getD_eq_getElem?_getD, List.getElem?_map, hz]; rfl
      rw [hzb] at ho2 hgl ⊢
      refine z1.bcut z2 (lo := 0) (hi := x.2.1) (mx := z.c) rfl rfl rfl (by omega) (by omega) (by omega) (Nat.le_refl _) fun a5 r5 hl5 => ?_
      simp only [List.drop_zero, Nat.sub_zero] at r5 hl5 ⊢
      refine (st.vnil 5 (sz := 1) (by omega)).app T26 und26 (by simp) (Src.slice r5.sl (by rw [bytesV_len, hl5, Nat.mul_one])) (oneC_bytes _) (by omega) fun a6 c6 h7 st => ⟨_, _, _, rfl, st⟩
    · have hge : dd.getD x.1 [] = [] := by
        have h1 : ¬ (x.1 : Int) < ld := of_decide_eq_false hc
        rw [List.getD_eq_getElem?_getD, List.getElem?_eq_none (by omega)]; rfl
      rw [hge, List.take_nil]
      exact st.vnil 5 (sz := 1) (by omega)
    · clear st
      rintro h5 _ s' ls' cs' st
      have hls : ((dd.getD x.1 []).take x.2.1).length = ls' := by
        have h1 := (St.vec (a := s') st).1.len
        rwa [bytesV_len, Nat.mul_one] at h1
      rw [List.length_take] at hls
      refine ⟨_, _, _, st.rd (by rfl), ?_⟩
      refine (r1.in st).bcut r2 (lo := 0) (hi := min y x.2.2.l) (mx := x.2.2.c) rfl rfl rfl (by omega) (by omega) (by omega) (Nat.le_refl _) fun a5 r5 hl5 => ?_
      simp only [List.drop_zero, Nat.sub_zero] at r5 hl5 ⊢
      refine st.app T26 und26 (by simp) (Src.slice r5.sl (by rw [bytesV_len, hl5, Nat.mul_one])) (oneC_bytes _) (by omega) fun a6 c6 h7 st => ⟨_, _, _, rfl, st.vnew fun b2 h8 st => ?_⟩
      rw [← bytesV_app] at st
      have hsl : Sl h8 (some ⟨b2, 0, none⟩) [sgV ⟨a6, ls' + min y x.2.2.l, c6, (dd.getD x.1 []).take x.2.1 ++ x.2.2.bs.take (min y x.2.2.l)⟩] := st.slB (b := b2)
      refine st.pull2.app T25 und25 (by simp) (Src.slice hsl rfl) (oneC_sg [_]) (by omega) fun m2 cm2 h9 st => ⟨_, _, _, rfl, _, ?_, j + 1, wrap_nat hjl (by omega), hjl, rfl, ?_, ?_, ?_⟩
      · omega
      · rw [wrap_id (by omega) (by omega)]; omega
      · rw [hnx, wrap_id (by omega) (by omega)]
        show _ = y - min y (wrS x).2.2.length
        rw [hxlen]; omega
      · rw [hnx]
        have hgs : getS dd x.1 x.2.1 x.2.2.bs (min y x.2.2.l) = (stepD (dd, y) (wrS x)).1 := by
          show _ = getS dd x.1 x.2.1 x.2.2.bs (min y (wrS x).2.2.length)
          rw [hxlen]
        rw [← hgs]
        have hdt : dd.take x.1 = (ds.take x.1).map Sg.bs := by rw [← hds, List.map_take]
        have hg : getS dd x.1 x.2.1 x.2.2.bs (min y x.2.2.l) = (ds.take x.1).map Sg.bs ++ [(dd.getD x.1 []).take x.2.1 ++ x.2.2.bs.take (min y x.2.2.l)] := by
          unfold getS
          rw [if_neg (by omega), hdt]
        rw [hg]
        have e1 : A.all (ds.map BS) = A.all ((ds.take x.1).map BS ++ (ds.drop x.1).map BS) := by rw [← List.map_append, List.take_append_drop]
        have st := ((st.sel (L' := [A.all (ds.map BS), _, _, _, _, _]) 6 [5, 0, 2, 1, 3, 4] rfl (by decide) (by rfl)).re e1).allParts
        have e2 : (ds.take x.1).map sgV ++ [sgV ⟨a6, ls' + min y x.2.2.l, c6, (dd.getD x.1 []).take x.2.1 ++ x.2.2.bs.take (min y x.2.2.l)⟩] = (ds.take x.1 ++ [(⟨a6, ls' + min y x.2.2.l, c6, (dd.getD x.1 []).take x.2.1 ++ x.2.2.bs.take (min y x.2.2.l)⟩ : Sg)]).map sgV := by rw [List.map_append]; rfl
        rw [e2] at st
        exact (LV.mklast (y := ⟨a6, ls' + min y x.2.2.l, c6, (dd.getD x.1 []).take x.2.1 ++ x.2.2.bs.take (min y x.2.2.l)⟩) (st.pull3.pull3)).only
theorem rdirty_spec (hs : LogRo none_ h p s) (hb : s.big ≤ 549755813888) : CallsH Tryd.prog 36 #[.pointer (some ⟨p, 0, none⟩)] h (fun v h' => v = .int .i64 (dirtyS s.ws) ∧ h' = h) := by
  obtain ⟨sa, sl, sc, wa, wl, wc, q1, q2, xs, q3, q4, q5, q6⟩ := hs
  refine vf36 _ h _ ?_
  unfold F36
  have hbig : tot s.segs + wtot s.ws ≤ 549755813888 := hb
  have hwl := wtot_len s.ws
  have hdw := dirty_wtot s.ws
  have hxl : xs.length = wl := by rw [← q6, ← q5, List.length_map]
  refine ⟨fun n hh z y => ∃ j : Nat, y = j ∧ j ≤ wl ∧ n = wl - j ∧ z = (dirtyS (s.ws.take j) : Int) ∧ hh = h, ⟨_, 0, rfl, by omega, rfl, rfl, rfl⟩, ?_⟩
  rintro n hh _ z y ⟨j, rfl, hj, rfl, rfl, rfl⟩
  refine VSome.mk ⟨_, _, _, LogRo.rd q1 1 _ rfl, ?_⟩
  refine cond_split (fun hc => ?_) (fun hc => ?_)
  · have hjl : j < wl := Int.ofNat_lt.1 (of_decide_eq_true hc)
    refine VSome.mk ⟨_, _, _, LogRo.rd q1 1 _ rfl, ?_⟩
    refine q3.sl.row wrC_len (by omega) hxl (by omega) (by omega) fun ad x hx get => ⟨_, _, _, get 2 _ rfl, ?_⟩
    rw [Int.toNat_natCast] at hx
    obtain ⟨r1, r2, r3⟩ := q4 x (List.mem_of_getElem? hx)
    have hw : s.ws[j]? = some (wrS x) := by rw [← q5, List.getElem?_map, hx]; rfl
    have hn := dirty_next hw
    have hle := dirty_le s.ws (j + 1)
    have hxlen : (wrS x).2.2.length = x.2.2.l := r2
    refine ⟨_, ?_, j + 1, wrap_nat hjl (by omega), hjl, rfl, ?_, rfl⟩
    · omega
    · rw [hn, hxlen, wrap_id (by omega) (by omega)]; omega
  · have hjl : j = wl := by
      have : ¬ (j : Int) < wl := of_decide_eq_false hc
      omega
    subst hjl
    rw [List.take_of_length_le (by omega)]
    exact ⟨rfl, rfl⟩
theorem rcrash_spec (keep : Int) (hs : LogRo none_ h p s) (hok : okD s.segs s.ws) (hb : s.big ≤ 549755813888) (hk : keep < 9223372036854775808) :
    CallsH Tryd.prog 35 #[.pointer (some ⟨p, 0, none⟩), .int .i64 keep] h (fun v h' => ∃ a' l' c', v = .agg #[.slice a' l' c'] ∧ St none_ h h' [LV a' l' c' (downS s.segs s.ws keep.toNat)]) := by
  refine vf35 _ _ h _ ?_
  unfold F35
  have st := St.fresh h
  refine st.vnew fun b h1 st => ?_
  refine CallsH.mono (rlies_spec keep (hs.in st) hok hb hk) ?_
  rintro _ h2 ⟨a', l', c', rfl, st2⟩
  have st := st.add1 st2
  refine ⟨_, _, _, rfl, ?_⟩
  refine st.vst (by simp) fun h3 st => ?_
  exact ⟨_, _, _, st.rd (by rfl), _, _, _, rfl, st.only⟩
theorem T99 : SlTy Tryd.prog 99 107 3 40 (.agg #[.int .i64 0, .int .i64 0, .slice none 0 0]) := ⟨by kernel_rfl, by kernel_rfl, rfl, by omega, by omega⟩
theorem und99 : Tryd.prog.underlying 99 = some (.slice 107) := by kernel_rfl
theorem rfirst_spec {seg : Nat} {num : BitVec 32} {r : Bytes} (k : Holds [LogA t 107 p s] F h) (hr : Ro F h a (bytesV r)) (hl : r.length = l) (hlb : l < 4294967296) (hb : s.big ≤ 549755813888) (hs : seg < 549755813888) :
    CallsH Tryd.prog 51 #[.pointer (some ⟨p, 0, none⟩), .int .i64 seg, u32V num, .slice a l c] h (fun v h' => v = .tuple #[] ∧ St F h h' [LogA t 107 p (beginS s seg num r)]) := by
  refine vf51 _ _ _ _ _ _ h _ ?_
  unfold F51
  have k := St.start k
  have hbig : tot s.segs + wtot s.ws ≤ 549755813888 := hb
  have hwl := wtot_len s.ws
  refine CallsH.mono (rhead_spec num) ?_
  rintro _ h3 ⟨a1, c1, rfl, k1⟩
  have k := k.add1 k1
  refine ⟨_, _, _, rfl, CallsH.mono (rframe_spec num 0#32 r (hr.in k).sl hl hlb) ?_⟩
  rintro _ h4 ⟨a2, c2, rfl, k1⟩
  have k := k.add1 k1
  have hlen2 : (bytesV (frameB num 0#32 r)).length = (12 + l) * 1 := by rw [bytesV_len, frameB_len]; omega
  refine ⟨_, _, _, rfl, k.pull1.app T26 und26 (by simp) (Src.slice (k.sl (a := a2)) hlen2) (oneC_bytes _) (by omega) fun a3 c3 h5 k => ⟨_, _, _, rfl, ?_⟩⟩
  rw [← bytesV_app] at k
  have k := k.pull1.drop
  obtain ⟨sa, sl, sc, wa, wl, wc, xs, he, w⟩ := LogA.open k.pull1
  clear k
  have k := w
  refine VSome.mk ⟨_, _, _, k.rd (by rfl), k.vnew fun b2 h6 k => ?_⟩
  have hlw := (St.vec (a := wa) k.pull3).1.len
  rw [flatMap_len wrC_len] at hlw
  have hxl : s.ws.length = wl := by rw [← he, List.length_map]; exact Nat.eq_of_mul_eq_mul_right (by omega : 0 < 3) hlw
  have hsl : Sl h6 (some ⟨b2, 0, none⟩) (wrC (seg, 0, ⟨a3, 12 + (12 + l), c3, headB num ++ frameB num 0#32 r⟩)) := k.slB (b := b2)
  refine k.pull3.app T99 und99 (by simp) (Src.slice hsl rfl) (oneC_wr _) (by omega) fun a' c' h7 k => ⟨_, _, _, rfl, VSome.mk ?_⟩
  refine k.vst (by simp [logC]) fun h8 k => VSome.mk ?_
  refine k.vst (by simp [logC]) fun h9 k => VSome.mk ?_
  refine k.vst (by simp [logC]) fun h10 k => VSome.mk ?_
  refine k.vst (by simp [logC]) fun h11 k => VSome.mk ?_
  refine k.vst (by simp [logC]) fun h12 k => ⟨rfl, ?_⟩
  have k := (k.pull1.drop.pull3.pull4.allIn)
  refine LogA.close (s := beginS s seg num r) (sa := sa) (sl := sl) (sc := sc) (wa := a') (wl := wl + 1) (wc := c') (xs := xs ++ [(seg, 0, ⟨a3, 12 + (12 + l), c3, headB num ++ frameB num 0#32 r⟩)]) ?_ ?_
  · rw [List.map_append, he]; rfl
  · have e1 : (xs ++ [((seg, 0, ⟨a3, 12 + (12 + l), c3, headB num ++ frameB num 0#32 r⟩) : WrM)]).flatMap wrC = xs.flatMap wrC ++ wrC (seg, 0, ⟨a3, 12 + (12 + l), c3, headB num ++ frameB num 0#32 r⟩) := by simp
    have e2 : ((12 + (12 + l) : Nat) : Int) = ((0 + (headB num ++ frameB num 0#32 r).length : Nat) : Int) := by
      rw [List.length_append, headB_len, frameB_len, hl]; omega
    rw [e1]
    rw [e2] at k
    have k := (k.allPerm (L' := (xs ++ [((seg, 0, ⟨a3, 12 + (12 + l), c3, headB num ++ frameB num 0#32 r⟩) : WrM)]).map fun x => BS x.2.2) (by rw [List.map_append]; exact (List.perm_append_singleton _ _).symm))
    exact k.sel 4 [2, 3, 1, 0] rfl (by decide) (by rfl)
theorem rappend_spec {r : Bytes} (k : Holds [LogA t 107 p s] F h) (hr : Ro F h a (bytesV r)) (hl : r.length = l) (hb : s.big ≤ 274877906944) (hok : s.Ok) (hlb : l < 9223372036854775808) :
    CallsH Tryd.prog 32 #[.pointer (some ⟨p, 0, none⟩), .slice a l c] h (fun v h' => (1048576 < l ∧ v = .int .i64 2 ∧ St F h h' [LogA t 107 p s]) ∨ (l ≤ 1048576 ∧ v = .int .i64 0 ∧ St F h h' [LogA t 107 p (addS s r)])) := by
  refine vf32 _ _ _ _ h _ ?_
  unfold F32
  have k := St.start k
  have hbig : tot s.segs + wtot s.ws ≤ 274877906944 := hb
  have hwl := wtot_len s.ws
  refine cond_split (fun hc => ?_) (fun hc => ?_)
  · have : (l : Int) > 1048576 := of_decide_eq_true hc
    exact .inl ⟨by omega, rfl, k⟩
  have hle : l ≤ 1048576 := by
    have : ¬ (l : Int) > 1048576 := of_decide_eq_false hc
    omega
  obtain ⟨sa, sl, sc, wa, wl, wc, xs, he, w⟩ := LogA.open k
  refine VSome.mk ⟨_, w.rd (by rfl), cond_split (fun hc2 => ?_) (fun hc2 => ?_)⟩
  · have hcur : s.cur < 0 := of_decide_eq_true hc2
    obtain ⟨F', G, k1, _, _, hF, back⟩ := k.frameA
    refine CallsH.mono (rfirst_spec (seg := 0) (num := 0#32) k1 (hr.at k.ext hF) hl (by omega) (by omega) (by omega)) ?_
    rintro _ h1 ⟨rfl, k2⟩
    refine ⟨rfl, .inr ⟨hle, rfl, ?_⟩⟩
    unfold addS
    rw [if_pos hcur]
    exact back k2
  · have hcur : ¬ s.cur < 0 := of_decide_eq_false hc2
    obtain ⟨hf1, hf2⟩ := hok.cur (by omega)
    have hfin := hok.fin_le (by omega)
    clear k
    have k := w
    refine VSome.mk ⟨_, k.rd (by rfl), VSome.mk ⟨_, k.rd (by rfl), ?_⟩⟩
    refine CallsH.mono (rframe_spec s.num s.frames r (hr.in k).sl hl (by omega)) ?_
    rintro _ h2 ⟨a1, c1, rfl, k1⟩
    have k := k.add1 k1
    refine ⟨_, _, _, rfl, VSome.mk ⟨_, _, _, k.rd (by rfl), VSome.mk ⟨_, k.rd (by rfl), VSome.mk ⟨_, k.rd (by rfl), k.vnew fun b2 h3 k => ⟨k.rd (by rfl), ?_⟩⟩⟩⟩⟩
    have hlw := (St.vec (a := wa) k.pull4).1.len
    rw [flatMap_len wrC_len] at hlw
    have hxl : s.ws.length = wl := by rw [← he, List.length_map]; exact Nat.eq_of_mul_eq_mul_right (by omega : 0 < 3) hlw
    have ecur : s.cur = ((s.cur.toNat : Nat) : Int) := by omega
    have hsl0 := k.slB (b := b2)
    have hsl : Sl h3 (some ⟨b2, 0, none⟩) (wrC (s.cur.toNat, s.fin, ⟨a1, 12 + l, c1, frameB s.num s.frames r⟩)) := by
      have e : wrC (s.cur.toNat, s.fin, ⟨a1, 12 + l, c1, frameB s.num s.frames r⟩) = [.int .i64 s.cur, .int .i64 s.fin, .slice a1 (12 + l) c1] := by
        unfold wrC; rw [← ecur]; rfl
      rw [e]; exact hsl0
    refine k.pull4.app T99 und99 (by simp) (Src.slice hsl rfl) (oneC_wr _) (by omega) fun a' c' h7 k => ⟨_, _, _, rfl, VSome.mk ?_⟩
    refine k.vst (by simp [logC]) fun h8 k => VSome.mk ⟨_, k.rd (by rfl), VSome.mk ?_⟩
    refine k.vst (by simp [logC]) fun h9 k => VSome.mk ⟨_, k.rd (by rfl), VSome.mk ?_⟩
    refine k.vst (by simp [logC]) fun h10 k => .inr ⟨hle, rfl, ?_⟩
    have e1 : IntKind.u32.wrap ((s.frames.toNat : Int) + 1) = ((s.frames + 1#32).toNat : Int) := wrap_succ32 _
    have e2 : IntKind.i64.wrap ((s.fin : Int) + ((12 + l : Nat) : Int)) = ((s.fin + (frameB s.num s.frames r).length : Nat) : Int) := by
      rw [wrap_id (by omega) (by omega), frameB_len, hl]; omega
    rw [e1, e2] at k
    have hadd : addS s r = putS s s.cur.toNat s.fin (frameB s.num s.frames r) s.num (s.frames + 1#32) := by
      unfold addS; rw [if_neg hcur]
    rw [hadd]
    have k : St F h h10 [A.vec 107 3 a' (wl + 1) c' (xs.flatMap wrC ++ wrC (s.cur.toNat, s.fin, ⟨a1, 12 + l, c1, frameB s.num s.frames r⟩)), A.blk b2 #[.int .i64 s.cur, .int .i64 s.fin, .slice a1 (12 + l) c1] 107, BS ⟨a1, 12 + l, c1, frameB s.num s.frames r⟩, A.blk p (logC sa sl sc a' (wl + 1) c' (putS s s.cur.toNat s.fin (frameB s.num s.frames r) s.num (s.frames + 1#32))).toArray t, LV sa sl sc s.segs, A.all (xs.map fun x => BS x.2.2)] := by
      have e3 : (logC sa sl sc a' (wl + 1) c' (putS s s.cur.toNat s.fin (frameB s.num s.frames r) s.num (s.frames + 1#32))) = [.slice sa sl sc, .slice a' (wl + 1) c', .int .i64 s.cur, .int .u32 s.num.toNat, .int .u32 ((s.frames + 1#32).toNat : Int), .int .i64 ((s.fin + (frameB s.num s.frames r).length : Nat) : Int)] := by
        unfold logC putS; simp only; rw [← ecur]; rfl
      rw [e3]; exact k
    have k := (k.pull1.drop.pull1.pull4.pull1.allIn)
    refine LogA.close (sa := sa) (sl := sl) (sc := sc) (wa := a') (wl := wl + 1) (wc := c') (xs := xs ++ [(s.cur.toNat, s.fin, ⟨a1, 12 + l, c1, frameB s.num s.frames r⟩)]) ?_ ?_
    · rw [List.map_append, he]; rfl
    · have e1 : (xs ++ [((s.cur.toNat, s.fin, ⟨a1, 12 + l, c1, frameB s.num s.frames r⟩) : WrM)]).flatMap wrC = xs.flatMap wrC ++ wrC (s.cur.toNat, s.fin, ⟨a1, 12 + l, c1, frameB s.num s.frames r⟩) := by simp
      rw [e1]
      have k := (k.allPerm (L' := (xs ++ [((s.cur.toNat, s.fin, ⟨a1, 12 + l, c1, frameB s.num s.frames r⟩) : WrM)]).map fun x => BS x.2.2) (by rw [List.map_append]; exact (List.perm_append_singleton _ _).symm))
      exact k.sel 4 [2, 3, 1, 0] rfl (by decide) (by rfl)
theorem rroll_spec {r : Bytes} (k : Holds [LogA t 107 p s] F h) (hr : Ro F h a (bytesV r)) (hl : r.length = l) (hb : s.big ≤ 274877906944) (hok : s.Ok) (hlb : l < 9223372036854775808) :
    CallsH Tryd.prog 33 #[.pointer (some ⟨p, 0, none⟩), .slice a l c] h (fun v h' => (1048576 < l ∧ v = .int .i64 2 ∧ St F h h' [LogA t 107 p s]) ∨ (l ≤ 1048576 ∧ v = .int .i64 0 ∧ St F h h' [LogA t 107 p (rollS s r)])) := by
  refine vf33 _ _ _ _ h _ ?_
  unfold F33
  have k := St.start k
  refine cond_split (fun hc => ?_) (fun hc => ?_)
  · have : (l : Int) > 1048576 := of_decide_eq_true hc
    exact .inl ⟨by omega, rfl, k⟩
  have hle : l ≤ 1048576 := by
    have : ¬ (l : Int) > 1048576 := of_decide_eq_false hc
    omega
  obtain ⟨sa, sl, sc, wa, wl, wc, xs, he, w⟩ := LogA.open k
  refine VSome.mk ⟨_, w.rd (by rfl), cond_split (fun hc2 => ?_) (fun hc2 => ?_)⟩
  · have hcur : s.cur < 0 := of_decide_eq_true hc2
    obtain ⟨F', G, k1, _, _, hF, back⟩ := k.frameA
    refine CallsH.mono (rfirst_spec (seg := 0) (num := 0#32) k1 (hr.at k.ext hF) hl (by omega) (by omega) (by omega)) ?_
    rintro _ h1 ⟨rfl, k2⟩
    refine ⟨rfl, .inr ⟨hle, rfl, ?_⟩⟩
    unfold rollS
    rw [if_pos hcur]
    exact back k2
  · have hcur : ¬ s.cur < 0 := of_decide_eq_false hc2
    obtain ⟨hf1, hf2⟩ := hok.cur (by omega)
    have hfin := hok.fin_le (by omega)
    have hcl : s.full.length ≤ 274877906944 := by
      have h1 : tot s.full ≤ tot s.segs + wtot s.ws := tot_full s.segs s.ws
      have h2 := tot_len s.full
      have h3 : tot s.segs + wtot s.ws ≤ 274877906944 := hb
      omega
    refine VSome.mk ⟨_, w.rd (by rfl), VSome.mk ⟨_, w.rd (by rfl), ?_⟩⟩
    have e1 : Value.int .u32 (IntKind.u32.wrap ((s.num.toNat : Int) + 1)) = u32V (s.num + 1#32) := by
      unfold u32V; rw [wrap_succ32]
    have e2 : IntKind.i64.wrap (s.cur + 1) = ((s.cur.toNat + 1 : Nat) : Int) := by
      rw [wrap_id (by omega) (by omega)]; omega
    rw [e1, e2]
    obtain ⟨F', G, k1, _, _, hF, back⟩ := k.frameA
    refine CallsH.mono (rfirst_spec (seg := s.cur.toNat + 1) (num := s.num + 1#32) k1 (hr.at k.ext hF) hl (by omega) (by omega) (by omega)) ?_
    rintro _ h1 ⟨rfl, k2⟩
    refine ⟨rfl, .inr ⟨hle, rfl, ?_⟩⟩
    unfold rollS
    rw [if_neg hcur]
    exact back k2
theorem rsync_spec (k : Holds [LogA t 107 p s] F h) (hb : s.big ≤ 274877906944) (hok : s.Ok) :
    CallsH Tryd.prog 34 #[.pointer (some ⟨p, 0, none⟩)] h (fun v h' => v = .tuple #[] ∧ St F h h' [LogA t 107 p (syncS s)]) := by
  refine vf34 _ h _ ?_
  unfold F34
  have k := St.start k
  have hbig : tot s.segs + wtot s.ws ≤ 274877906944 := hb
  have hdw := dirty_wtot s.ws
  refine CallsH.mono (rdirty_spec k.log (by omega)) ?_
  rintro _ _ ⟨rfl, rfl⟩
  refine ⟨_, rfl, CallsH.mono (rlies_spec (dirtyS s.ws : Int) k.log hok.ws (by omega) (by omega)) ?_⟩
  rintro _ h2 ⟨a1, l1, c1, rfl, k1⟩
  rw [Int.toNat_natCast, down_all] at k1
  have k := k.add1 k1
  refine ⟨_, _, _, rfl, ?_⟩
  obtain ⟨sa, sl, sc, wa, wl, wc, xs, he, w⟩ := LogA.open k.pull1
  clear k
  have k := w
  refine VSome.mk ?_
  refine k.vst (by simp [logC]) fun h3 k => VSome.mk ?_
  refine k.vst (by simp [logC]) fun h4 k => VSome.mk ⟨_, k.rd (by rfl), ?_⟩
  have k : St F _ h4 [A.blk p (logC a1 l1 c1 none 0 0 s).toArray t, LV a1 l1 c1 s.full] := (k.sel 5 [0, 4, 1, 2, 3] rfl (by decide) (by rfl) : St F _ h4 [A.blk p (logC a1 l1 c1 none 0 0 s).toArray t, LV a1 l1 c1 (fullD s.segs s.ws), _, _, _]).only2
  refine cond_split (fun hc => ?_) (fun hc => ?_)
  · have hcur : 0 < s.cur := of_decide_eq_true hc
    obtain ⟨hf1, hf2⟩ := hok.cur (by omega)
    have hfin := hok.fin_le (by omega)
    have hll := LV.len k.pull1
    refine VSome.mk ⟨_, _, _, k.rd (by rfl), VSome.mk ⟨_, k.rd (by rfl), ?_⟩⟩
    refine LV.cut k.pull1 (lo := s.cur.toNat) (hi := l1) (by omega) rfl rfl (by omega) (Nat.le_refl _) fun a2 k => ?_
    rw [List.take_of_length_le (by omega)] at k
    refine VSome.mk ?_
    refine k.vst (by simp [logC]) fun h6 k => VSome.mk ?_
    refine k.vst (by simp [logC]) fun h7 k => ⟨rfl, ?_⟩
    unfold syncS
    rw [if_pos hcur]
    exact LogA.close (s := { s with segs := s.full.drop s.cur.toNat, ws := [], cur := 0 }) (sa := a2) (sl := l1 - s.cur.toNat) (sc := c1 - s.cur.toNat) (wa := none) (wl := 0) (wc := 0) (xs := []) rfl (((k.vnil 107 (sz := 3) (by omega)).all0).sel 4 [3, 2, 1, 0] rfl (by decide) (by rfl))
  · have hcur : ¬ 0 < s.cur := of_decide_eq_false hc
    refine ⟨rfl, ?_⟩
    unfold syncS
    rw [if_neg hcur]
    exact LogA.close (s := { s with segs := s.full, ws := [] }) (sa := a1) (sl := l1) (sc := c1) (wa := none) (wl := 0) (wc := 0) (xs := []) rfl (((k.vnil 107 (sz := 3) (by omega)).all0).sel 4 [2, 3, 1, 0] rfl (by decide) (by rfl))
end Go.Proofs.YtbaglaoefaoaoaaDoor.F
