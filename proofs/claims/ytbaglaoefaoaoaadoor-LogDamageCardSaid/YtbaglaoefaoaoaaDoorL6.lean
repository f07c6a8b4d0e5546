/- Package log: writing: put, begin, Append, Roll, Sync. Conditions: none. -/
import Derived.Test.YtbaglaoefaoaoaaDoorL5
namespace Go.Proofs.YtbaglaoefaoaoaaDoor.F
open Go Go.VC Go.Proofs
set_option linter.unusedSimpArgs false
set_option linter.unusedVariables false
set_option maxRecDepth 100000
attribute [local irreducible] CallsH RunsTo PureTo

theorem T78 : SlTy Tryd.prog 78 83 3 40 (.agg #[.int .i64 0, .int .i64 0, .slice none 0 0]) := ⟨by kernel_rfl, by kernel_rfl, rfl, by omega, by omega⟩
theorem und78 : Tryd.prog.underlying 78 = some (.slice 83) := by kernel_rfl
theorem oneC_wr (x : WrM) : ∀ v ∈ wrC x, oneC v = true := by
  intro v hv
  simp only [wrC, List.mem_cons, List.not_mem_nil, or_false] at hv
  rcases hv with rfl | rfl | rfl <;> rfl
variable {S F G : Nat → Prop} {h0 h h1 : Heap} {L R L' : List A} {a : Option Addr} {l c : Nat} {bs : List UInt8} {bss : List (List UInt8)} {t te p : Nat} {s : LogS}
theorem put_spec {seg at_ : Nat} {b : Sg} (k : Holds [LogA t 83 p s, BS b] F h) (hb : s.big ≤ 549755813888) (hs : seg < 549755813888) (hsum : at_ + b.l < 549755813888) :
    CallsH Tryd.prog 46 #[.pointer (some ⟨p, 0, none⟩), .int .i64 seg, .int .i64 at_, sgV b] h (fun v h' => v = .tuple #[] ∧ St F h h' [LogA t 83 p (putS s seg at_ b.bs s.num s.frames)]) := by
  refine vf46 _ _ _ _ _ _ h _ ?_
  unfold F46
  have hbig : tot s.segs + wtot s.ws ≤ 549755813888 := hb
  have hwl := wtot_len s.ws
  have k := St.start k
  obtain ⟨hbl, hbc, _⟩ := BS.len k.pull1
  obtain ⟨sa, sl, sc, wa, wl, wc, xs, he, w⟩ := LogA.open k
  clear k
  have k := w
  refine VSome.mk ⟨_, _, _, k.rd (by rfl), k.vnew fun b2 h1 k => ?_⟩
  have hl := (St.vec (a := wa) k.pull3).1.len
  rw [flatMap_len wrC_len] at hl
  have hxl : s.ws.length = wl := by rw [← he, List.length_map]; exact Nat.eq_of_mul_eq_mul_right (by omega : 0 < 3) hl
  have hsl : Sl h1 (some ⟨b2, 0, none⟩) (wrC (seg, at_, b)) := k.slB (b := b2)
  refine k.pull3.app T78 und78 (by simp) (Src.slice hsl rfl) (oneC_wr (seg, at_, b)) (by omega) fun a' c' h2 k => ⟨_, _, _, rfl, VSome.mk ?_⟩
  refine k.vst (by simp [logC]) fun h3 k => VSome.mk ?_
  refine k.vst (by simp [logC]) fun h4 k => VSome.mk ?_
  refine k.vst (by simp [logC]) fun h5 k => ⟨rfl, ?_⟩
  have k := (k.pull1.drop.pull3.pull4.allIn).pull1.pull3.pull3
  refine LogA.close (sa := sa) (sl := sl) (sc := sc) (wa := a') (wl := wl + 1) (wc := c') (xs := xs ++ [(seg, at_, b)]) ?_ ?_
  · rw [List.map_append, he]; rfl
  · have e1 : (xs ++ [(seg, at_, b)]).flatMap wrC = xs.flatMap wrC ++ wrC (seg, at_, b) := by simp
    have e2 : IntKind.i64.wrap ((at_ : Int) + (b.l : Int)) = ((at_ + b.bs.length : Nat) : Int) := by
      rw [wrap_id (by omega) (by omega), hbl]; omega
    rw [e1]
    rw [e2] at k
    have k := ((k.pull3).allPerm (L' := (xs ++ [(seg, at_, b)]).map fun x => BS x.2.2) (by rw [List.map_append]; exact (List.perm_append_singleton _ _).symm))
    exact k.sel 4 [1, 2, 3, 0] rfl (by decide) (by rfl)
theorem begin_spec {seg : Nat} {num : BitVec 32} {r : Bytes} (k : Holds [LogA t 83 p s] F h) (hT : Tab F h) (hr : Ro F h a (bytesV r)) (hl : r.length = l) (hlb : l < 4294967296) (hb : s.big ≤ 549755813888) (hs : seg < 549755813888) :
    CallsH Tryd.prog 44 #[.pointer (some ⟨p, 0, none⟩), .int .i64 seg, u32V num, .slice a l c] h (fun v h' => v = .tuple #[] ∧ St F h h' [LogA t 83 p (beginS s seg num r)]) := by
  refine vf44 _ _ _ _ _ _ h _ ?_
  unfold F44
  have k := St.start k
  obtain ⟨sa, sl, sc, wa, wl, wc, xs, he, w⟩ := LogA.open k
  clear k
  have k := w
  refine VSome.mk ?_
  refine k.vst (by simp [logC]) fun h1 k => VSome.mk ?_
  refine k.vst (by simp [logC]) fun h2 k => ?_
  have k := LogA.close (s := { s with num := num, frames := 1#32 }) he k
  refine CallsH.mono (head_spec num (hT.in k)) ?_
  rintro _ h3 ⟨a1, c1, rfl, k1⟩
  have k := k.add1 k1
  refine ⟨_, _, _, rfl, CallsH.mono (frame_spec num 0#32 r (hT.in k) (hr.in k).sl hl hlb) ?_⟩
  rintro _ h4 ⟨a2, c2, rfl, k1⟩
  have k := k.add1 k1
  have hlen2 : (bytesV (frameB num 0#32 r)).length = (12 + l) * 1 := by rw [bytesV_len, frameB_len]; omega
  refine ⟨_, _, _, rfl, k.pull1.app T26 und26 (by simp) (Src.slice (k.sl (a := a2)) hlen2) (oneC_bytes _) (by omega) fun a3 c3 h5 k => ⟨_, _, _, rfl, ?_⟩⟩
  rw [← bytesV_app] at k
  obtain ⟨F', G, k1, _, _, hF, back⟩ := k.pull1.drop.pull1.frame (L := [_, _]) (R := [])
  refine CallsH.mono (put_spec (seg := seg) (at_ := 0) (b := ⟨a3, 12 + (12 + l), c3, headB num ++ frameB num 0#32 r⟩) k1 hb hs (by simp only; omega)) ?_
  rintro _ h6 ⟨rfl, k2⟩
  exact ⟨rfl, rfl, back k2⟩
theorem append_spec {r : Bytes} (k : Holds [LogA t 83 p s] F h) (hT : Tab F h) (hr : Ro F h a (bytesV r)) (hl : r.length = l) (hb : s.big ≤ 274877906944) (hok : s.Ok) (hlb : l < 9223372036854775808) :
    CallsH Tryd.prog 22 #[.pointer (some ⟨p, 0, none⟩), .slice a l c] h (fun v h' => (1048576 < l ∧ v = .int .i64 2 ∧ St F h h' [LogA t 83 p s]) ∨ (l ≤ 1048576 ∧ v = .int .i64 0 ∧ St F h h' [LogA t 83 p (addS s r)])) := by
  refine vf22 _ _ _ _ h _ ?_
  unfold F22
  have k := St.start k
  refine ⟨fun h' _ => l ≤ 1048576 ∧ St F h h' [LogA t 83 p (addS s r)], cond_split (fun hc => ?_) (fun hc => ?_), fun h' _ y hk => .inr ⟨hk.1, rfl, hk.2⟩⟩
  · have : (l : Int) > 1048576 := of_decide_eq_true hc
    exact .inl ⟨by omega, rfl, k⟩
  have hle : l ≤ 1048576 := by
    have : ¬ (l : Int) > 1048576 := of_decide_eq_false hc
    omega
  obtain ⟨sa, sl, sc, wa, wl, wc, xs, he, w⟩ := LogA.open k
  refine VSome.mk ⟨_, w.rd (by rfl), cond_split (fun hc2 => ?_) (fun hc2 => ?_)⟩
  · have hcur : s.cur < 0 := of_decide_eq_true hc2
    obtain ⟨F', G, k1, _, _, hF, back⟩ := k.frameA
    refine CallsH.mono (begin_spec (seg := 0) (num := 0#32) k1 (hT.at k.ext hF) (hr.at k.ext hF) hl (by omega) (by omega) (by omega)) ?_
    rintro _ h1 ⟨rfl, k2⟩
    refine ⟨rfl, hle, ?_⟩
    unfold addS
    rw [if_pos hcur]
    exact back k2
  · have hcur : ¬ s.cur < 0 := of_decide_eq_false hc2
    obtain ⟨hf1, hf2⟩ := hok.cur (by omega)
    have hfin := hok.fin_le (by omega)
    have hcl : s.full.length ≤ 274877906944 := by
      have h1 : tot s.full ≤ tot s.segs + wtot s.ws := tot_full s.segs s.ws
      have h2 := tot_len s.full
      have h3 : tot s.segs + wtot s.ws ≤ 274877906944 := hb
      omega
    clear k
    have k := w
    refine VSome.mk ⟨_, k.rd (by rfl), VSome.mk ⟨_, k.rd (by rfl), ?_⟩⟩
    refine CallsH.mono (frame_spec s.num s.frames r (hT.in k) (hr.in k).sl hl (by omega)) ?_
    rintro _ h2 ⟨a1, c1, rfl, k1⟩
    have k := k.add1 k1
    refine ⟨_, _, _, rfl, VSome.mk ⟨_, k.rd (by rfl), VSome.mk ?_⟩⟩
    refine k.vst (by simp [logC]) fun h3 k => VSome.mk ⟨_, k.rd (by rfl), VSome.mk ⟨_, k.rd (by rfl), ?_⟩⟩
    have e1 : IntKind.u32.wrap ((s.frames.toNat : Int) + 1) = ((s.frames + 1#32).toNat : Int) := by
      rw [wrap_u32, BitVec.toNat_add]; show _ = (((s.frames.toNat + 1) % 4294967296 : Nat) : Int); omega
    rw [e1] at k
    have k := LogA.close (s := { s with frames := s.frames + 1#32 }) (sa := sa) (sl := sl) (sc := sc) (wa := wa) (wl := wl) (wc := wc) (te := 83) (t := t) (p := p) (xs := xs) (R := [BV a1 (12 + l) c1 (frameB s.num s.frames r)]) he (k.pull1.sel 5 [0, 2, 3, 4, 1] rfl (by decide) (by rfl))
    have ecur : s.cur = ((s.cur.toNat : Nat) : Int) := by omega
    rw [ecur]
    obtain ⟨F', G, k1, _, _, hF, back⟩ := k.frame (L := [_, _]) (R := [])
    refine CallsH.mono (put_spec (seg := s.cur.toNat) (at_ := s.fin) (b := ⟨a1, 12 + l, c1, frameB s.num s.frames r⟩) k1 (show s.big ≤ _ by omega) (by omega) (by simp only; omega)) ?_
    rintro _ h6 ⟨rfl, k2⟩
    refine ⟨rfl, hle, ?_⟩
    unfold addS
    rw [if_neg hcur]
    exact back k2
theorem roll_spec {r : Bytes} (k : Holds [LogA t 83 p s] F h) (hT : Tab F h) (hr : Ro F h a (bytesV r)) (hl : r.length = l) (hb : s.big ≤ 274877906944) (hok : s.Ok) (hlb : l < 9223372036854775808) :
    CallsH Tryd.prog 23 #[.pointer (some ⟨p, 0, none⟩), .slice a l c] h (fun v h' => (1048576 < l ∧ v = .int .i64 2 ∧ St F h h' [LogA t 83 p s]) ∨ (l ≤ 1048576 ∧ v = .int .i64 0 ∧ St F h h' [LogA t 83 p (rollS s r)])) := by
  refine vf23 _ _ _ _ h _ ?_
  unfold F23
  have k0 := k
  have k := St.start k
  obtain ⟨sa, sl, sc, wa, wl, wc, xs, he, w⟩ := LogA.open k
  refine VSome.mk ⟨_, w.rd (by rfl), cond_split (fun hc2 => ?_) (fun hc2 => ?_)⟩
  · have hcur : s.cur < 0 := of_decide_eq_true hc2
    have e : addS s r = rollS s r := by unfold addS rollS; rw [if_pos hcur, if_pos hcur]
    refine CallsH.mono (append_spec k0 hT hr hl hb hok hlb) ?_
    rintro _ h1 (⟨q1, rfl, q2⟩ | ⟨q1, rfl, q2⟩)
    · exact ⟨_, rfl, .inl ⟨q1, rfl, q2⟩⟩
    · exact ⟨_, rfl, .inr ⟨q1, rfl, e ▸ q2⟩⟩
  have hcur : ¬ s.cur < 0 := of_decide_eq_false hc2
  refine cond_split (fun hc => ?_) (fun hc => ?_)
  · have hgt : (l : Int) > 1048576 := of_decide_eq_true hc
    refine CallsH.mono (append_spec k0 hT hr hl hb hok hlb) ?_
    rintro _ h1 (⟨q1, rfl, q2⟩ | ⟨q1, rfl, q2⟩)
    · exact ⟨_, rfl, .inl ⟨q1, rfl, q2⟩⟩
    · omega
  · have hle : l ≤ 1048576 := by
      have : ¬ (l : Int) > 1048576 := of_decide_eq_false hc
      omega
    obtain ⟨hf1, hf2⟩ := hok.cur (by omega)
    have hfin := hok.fin_le (by omega)
    have hcl : s.full.length ≤ 274877906944 := by
      have h1 : tot s.full ≤ tot s.segs + wtot s.ws := tot_full s.segs s.ws
      have h2 := tot_len s.full
      have h3 : tot s.segs + wtot s.ws ≤ 274877906944 := hb
      omega
    refine VSome.mk ⟨_, w.rd (by rfl), VSome.mk ⟨_, w.rd (by rfl), ?_⟩⟩
    have e1 : Value.int .u32 (IntKind.u32.wrap ((s.num.toNat : Int) + 1)) = u32V (s.num + 1#32) := by
      unfold u32V
      rw [wrap_u32, BitVec.toNat_add]; show _ = Value.int .u32 (((s.num.toNat + 1) % 4294967296 : Nat) : Int)
      congr 1
    have e2 : IntKind.i64.wrap (s.cur + 1) = ((s.cur.toNat + 1 : Nat) : Int) := by
      rw [wrap_id (by omega) (by omega)]; omega
    rw [e1, e2]
    obtain ⟨F', G, k1, _, _, hF, back⟩ := k.frameA
    refine CallsH.mono (begin_spec (seg := s.cur.toNat + 1) (num := s.num + 1#32) k1 (hT.at k.ext hF) (hr.at k.ext hF) hl (by omega) (by omega) (by omega)) ?_
    rintro _ h1 ⟨rfl, k2⟩
    refine ⟨rfl, .inr ⟨hle, rfl, ?_⟩⟩
    unfold rollS
    rw [if_neg hcur]
    exact back k2
theorem sync_spec (k : Holds [LogA t 83 p s] F h) (hb : s.big ≤ 274877906944) (hok : s.Ok) :
    CallsH Tryd.prog 24 #[.pointer (some ⟨p, 0, none⟩)] h (fun v h' => v = .tuple #[] ∧ St F h h' [LogA t 83 p (syncS s)]) := by
  refine vf24 _ h _ ?_
  unfold F24
  have k := St.start k
  have hbig : tot s.segs + wtot s.ws ≤ 274877906944 := hb
  have hdw := dirty_wtot s.ws
  refine CallsH.mono (dirty_spec k.log (by omega)) ?_
  rintro _ h1 ⟨rfl, m1⟩
  have k := k.next m1
  refine ⟨_, rfl, CallsH.mono (down_spec (k := dirtyS s.ws) k.log hok.ws (by omega) (by omega)) ?_⟩
  rintro _ h2 ⟨q, a1, l1, c1, rfl, k1⟩
  rw [down_all] at k1
  have k := k.add2 k1
  refine ⟨_, rfl, VSome.mk ⟨_, _, _, k.rd (by rfl), ?_⟩⟩
  obtain ⟨sa, sl, sc, wa, wl, wc, xs, he, w⟩ := LogA.open k.pull2
  clear k
  have k := w
  refine VSome.mk ?_
  refine k.vst (by simp [logC]) fun h3 k => VSome.mk ?_
  refine k.vst (by simp [logC]) fun h4 k => VSome.mk ⟨_, k.rd (by rfl), ?_⟩
  have k : St F h h4 [A.blk p (logC a1 l1 c1 none 0 0 s).toArray t, LV a1 l1 c1 s.full] := (k.sel 6 [0, 5, 1, 2, 3, 4] rfl (by decide) (by rfl) : St F h h4 [A.blk p (logC a1 l1 c1 none 0 0 s).toArray t, LV a1 l1 c1 (fullD s.segs s.ws), _, _, _, _]).perm (List.perm_append_comm (l₁ := [_, _]) (l₂ := [_, _, _, _])) |>.drop.drop.drop.drop
  have hfl : tot s.full ≤ tot s.segs + wtot s.ws := tot_full s.segs s.ws
  refine cond_split (fun hc => ?_) (fun hc => ?_)
  · have hcur : 0 < s.cur := of_decide_eq_true hc
    obtain ⟨hf1, hf2⟩ := hok.cur (by omega)
    have hfin := hok.fin_le (by omega)
    have hll := LV.len k.pull1
    refine VSome.mk ⟨_, _, _, k.rd (by rfl), VSome.mk ⟨_, k.rd (by rfl), ?_⟩⟩
    refine LV.cut k.pull1 (lo := s.cur.toNat) (hi := l1) (by omega) rfl rfl (by omega) (Nat.le_refl _) fun a2 k => ?_
    rw [List.take_of_length_le (by omega)] at k
    have htd := tot_drop s.full s.cur.toNat
    obtain ⟨F', G, k1, _, _, hF, back⟩ := k.frameA
    refine CallsH.mono (clones_spec k1 (by omega)) ?_
    rintro _ h5 ⟨a3, c3, rfl, k2⟩
    have k := back k2
    refine ⟨_, _, _, rfl, VSome.mk ?_⟩
    refine k.vst (by simp [logC]) fun h6 k => VSome.mk ?_
    refine k.vst (by simp [logC]) fun h7 k => ⟨rfl, ?_⟩
    unfold syncS
    rw [if_pos hcur]
    exact LogA.close (s := { s with segs := s.full.drop s.cur.toNat, ws := [], cur := 0 }) (sa := a3) (sl := l1 - s.cur.toNat) (sc := c3) (wa := none) (wl := 0) (wc := 0) (xs := []) rfl (((k.vnil 83 (sz := 3) (by omega)).all0).sel 4 [3, 2, 1, 0] rfl (by decide) (by rfl))
  · have hcur : ¬ 0 < s.cur := of_decide_eq_false hc
    refine ⟨rfl, ?_⟩
    unfold syncS
    rw [if_neg hcur]
    exact LogA.close (s := { s with segs := s.full, ws := [] }) (sa := a1) (sl := l1) (sc := c1) (wa := none) (wl := 0) (wc := 0) (xs := []) rfl (((k.vnil 83 (sz := 3) (by omega)).all0).sel 4 [2, 3, 1, 0] rfl (by decide) (by rfl))
end Go.Proofs.YtbaglaoefaoaoaaDoor.F
