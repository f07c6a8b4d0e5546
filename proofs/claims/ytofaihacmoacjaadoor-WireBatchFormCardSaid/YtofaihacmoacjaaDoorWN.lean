/- The laws of wire that ask no answer of the document: one form. Conditions: none. -/
import Derived.Test.YtofaihacmoacjaaDoorWK
namespace Go.Proofs.YtofaihacmoacjaaDoor.F
open Go Go.VC Go.Proofs
set_option linter.unusedSimpArgs false
set_option linter.unusedVariables false
set_option maxRecDepth 100000
attribute [local irreducible] CallsH RunsTo PureTo

variable {S F G : Nat → Prop} {h0 h h1 : Heap} {L R L' : List A} {a b ia ra : Option Addr} {l c l2 c2 l3 c3 p t at_ : Nat} {bs cs raw : List UInt8} {bss css : List Bytes} {e : Ev} {v : Val} {es fs : List Ev}
theorem vec_le {e' sz : Nat} {vs : List Value} (k : St S h0 h (A.vec e' sz a l c vs :: R)) : l ≤ c := (St.vec (a := a) k).1.le
theorem sl_take (hs : Sl h a (bytesV bs)) (n : Nat) : Sl h a (bytesV (bs.take n)) := by
  have := (hs.ro.take n).sl
  have e : (bytesV bs).take n = bytesV (bs.take n) := by simp [bytesV, List.map_take]
  rwa [e] at this
theorem encF_ok (h : faultE e = 0) : encF e = encE e := by unfold encF; rw [if_pos h]
theorem encE_pos (e : Ev) : 1 ≤ (encE e).length := by
  have := putN_len e.t.length
  unfold encE putS
  simp only [List.length_append]
  omega
theorem front_spec (hw : Wd none_ h) (hs : Sl h a (bytesV bs)) (hl : bs.length = l) (hlc : l ≤ c) (hb : l ≤ 140737488363520) : CallsH Tryd.prog 25 #[.slice a l c] h (fun v h' => v = .bool true ∧ Ext h h') := by
  refine vf25 _ _ _ h _ ?_
  unfold F25
  refine CallsH.mono (decode_spec hw hs hl hlc hb) ?_
  rintro _ h2 ⟨a5, c5, rfl, k⟩
  refine ⟨_, _, _, _, _, _, _, rfl, k.vnew fun b8 h9 k => k.vall (by rfl) (by rfl) fun h10 k => ?_⟩
  cases hd : evR bs with
  | err f =>
    have hf := Bad.ev _ _ hd
    have e1 : decB bs = (noEv, 0, f) := by unfold decB; rw [hd]
    rw [e1]
    exact cond_true (by simpa using hf) ⟨rfl, k.ext⟩
  | ok x n =>
    have e1 : decB bs = (x, n, 0) := by unfold decB; rw [hd]
    obtain ⟨p1, p2, p3⟩ := Form.ev.pg _ _ _ hd
    have hn := Form.ev.le hd
    have hpos := encE_pos x
    rw [e1] at k ⊢
    refine cond_false rfl (cond_false (decide_eq_false (by show ¬ (n : Int) < 1; omega)) (cond_false (decide_eq_false (by show ¬ (n : Int) > (l : Int); omega)) ⟨_, k.rd (by rfl), _, k.rd (by rfl), _, _, _, k.rd (by rfl), ?_⟩))
    have hvl := okE_len p1
    refine CallsH.mono (encode_spec (e := x) (hw.in k) ⟨(k.sl (a := a5)).ro, rfl, p1.2⟩ (by show x.vs.length ≤ _; omega)) ?_
    rintro _ h15 ⟨a16, c16, rfl, k2⟩
    have k := k.add1 k2
    rw [encF_ok p1.1, p1.1] at *
    refine ⟨_, _, _, _, rfl, cond_false rfl (whole_cut (lo := 0) (by show n ≤ c; omega) ?_)⟩
    refine CallsH.mono (same_spec (k.sl (a := a16)) rfl ((sl_take hs n).ext k.ext) (by show (bs.take n).length = n; rw [List.length_take]; omega) (by omega)) ?_
    rintro _ _ ⟨rfl, rfl⟩
    refine ⟨_, rfl, cond_false (by rw [p3]; simp) ?_⟩
    refine ⟨fun m hh _ i => ∃ j : Nat, i = j ∧ j ≤ n ∧ m = n - j ∧ Ext h hh, ⟨_, 0, rfl, by omega, rfl, k.ext⟩, ?_⟩
    clear k k2
    rintro m hh _ _ i ⟨j, rfl, hj, rfl, m⟩
    refine cond_split (fun hc => ?_) (fun hc => ⟨rfl, m⟩)
    have hjn : j < n := Int.ofNat_lt.1 (of_decide_eq_true hc)
    refine whole_cut (lo := 0) (by omega) ?_
    refine CallsH.mono (decode_spec (hw.sl.ext m).ro ((sl_take hs j).ext m) (by rw [List.length_take]; omega) (by omega) (by omega)) ?_
    rintro _ h31 ⟨a34, c34, rfl, k⟩
    have e2 : decB (bs.take j) = (noEv, 0, 30) := by unfold decB; rw [Form.ev.sh _ _ _ _ hd hjn]
    rw [e2] at k ⊢
    exact ⟨_, _, _, _, _, _, _, rfl, k.vnew fun b37 h38 k => k.vall (by rfl) (by rfl) fun h39 k => cond_false rfl ⟨_, by omega, j + 1, wrap_nat hjn (by omega), hjn, rfl, m.then k.ext⟩⟩
theorem numcheck_spec (hs : Sl h a (bytesV bs)) (hl : bs.length = l) (hlc : l ≤ c) (hb : l ≤ 140737488363520) : CallsH Tryd.prog 26 #[.slice a l c] h (fun v h' => v = .bool true ∧ Ext h h') := by
  refine vf26 _ _ _ h _ ?_
  unfold F26
  refine CallsH.mono (int_spec hs hl (by omega)) ?_
  rintro _ h ⟨rfl, rfl⟩
  cases hd : getN bs with
  | err f =>
    have hf := Bad.num hd
    exact ⟨_, _, _, rfl, cond_true (by simpa using hf) ⟨rfl, .refl _ _⟩⟩
  | ok x n =>
    obtain ⟨p1, p2, p3⟩ := Form.num.pg _ _ _ hd
    have hn := Form.num.le hd
    have hpos := putN_len x
    refine ⟨_, _, _, rfl, cond_false rfl (cond_false (decide_eq_false (by omega)) (cond_false (decide_eq_false (by omega)) (whole_cut (lo := 0) (by omega) ?_)))⟩
    refine CallsH.mono (PutInt_spec p1.1 p1.2) ?_
    rintro _ h8 ⟨a9, c9, rfl, k⟩
    refine ⟨_, _, _, rfl, ?_⟩
    refine CallsH.mono (same_spec (k.sl (a := a9)) rfl ((sl_take hs n).ext k.ext) (by rw [List.length_take]; omega) (by omega)) ?_
    rintro _ _ ⟨rfl, rfl⟩
    refine ⟨_, rfl, cond_false (by rw [p3]; simp) ?_⟩
    have m0 := k.ext
    refine ⟨fun m hh _ i => ∃ j : Nat, i = j ∧ j ≤ n ∧ m = n - j ∧ Ext h hh, ⟨_, 0, rfl, by omega, rfl, ?_⟩, ?_⟩
    · exact m0
    clear k m0
    rintro m hh _ _ i ⟨j, rfl, hj, rfl, m⟩
    refine cond_split (fun hc => ?_) (fun hc => ⟨rfl, m⟩)
    have hjn : j < n := Int.ofNat_lt.1 (of_decide_eq_true hc)
    refine whole_cut (lo := 0) (by omega) ?_
    refine CallsH.mono (int_spec ((sl_take hs j).ext m) (by rw [List.length_take]; omega) (by omega)) ?_
    rintro _ _ ⟨rfl, rfl⟩
    rw [Form.num.sh _ _ _ _ hd hjn]
    exact ⟨_, _, _, rfl, cond_false rfl ⟨_, by omega, j + 1, wrap_nat hjn (by omega), hjn, rfl, m⟩⟩
theorem wireOneForm_spec {n : Int} (hw : Wd none_ h) (he : EvRo none_ h a l e) (hn : -9223372036854775808 ≤ n ∧ n < 9223372036854775808) (hbh : Sl h b (bytesV bs)) (hbl : bs.length = l2) (hr : Sl h ra (bytesV raw)) (hrl : raw.length = l3) (hrc : l3 ≤ c3) (hb1 : l ≤ 3518437208780) (hb2 : l2 ≤ 140737488351232) (hb3 : l3 ≤ 140737488351232) :
    CallsH Tryd.prog 5 #[aggE e a l c, .int .i64 n, .slice b l2 c2, .slice ra l3 c3] h (fun v h' => v = .bool true ∧ Ext h h') := by
  refine vf5 _ _ _ _ _ _ _ _ _ _ _ _ h _ ?_
  unfold F5
  have k := St.fresh h
  refine k.vnew fun b1 h2 k => ?_
  refine CallsH.mono (begun_spec (hw.in k)) ?_
  rintro _ h4 ⟨rfl, m⟩
  have k := k.next m
  refine ⟨_, rfl, cond_false rfl ?_⟩
  refine CallsH.mono (front_spec (hw.in k) (hr.ext k.ext) hrl hrc (by omega)) ?_
  rintro _ h7 ⟨rfl, m⟩
  have k := k.next m
  refine ⟨_, rfl, cond_false rfl ?_⟩
  refine CallsH.mono (numcheck_spec (hr.ext k.ext) hrl hrc (by omega)) ?_
  rintro _ h10 ⟨rfl, m⟩
  have k := k.next m
  refine ⟨_, rfl, cond_false rfl ?_⟩
  refine CallsH.mono (PutInt_spec hn.1 hn.2) ?_
  rintro _ h13 ⟨a14, c14, rfl, k2⟩
  have k := k.add1 k2
  have hp := putN_len n
  refine ⟨_, _, _, rfl, ?_⟩
  have k := (k.vnil 5 (sz := 1) (by omega)).re (y := BV none 0 0 []) rfl
  refine app_bytes (s := putN n) k (k.drop.sl (a := a14)) (by omega) fun a17 c17 h16 k => ⟨_, _, _, rfl, ?_⟩
  rw [Nat.zero_add, List.nil_append] at *
  subst hbl
  refine app_bytes (s := bs) k (hbh.ext k.ext) (by omega) fun a20 c20 h19 k => ⟨_, _, _, rfl, ?_⟩
  refine CallsH.mono (int_spec (k.sl (a := a20)) (by rw [List.length_append]) (by omega)) ?_
  rintro _ _ ⟨rfl, rfl⟩
  rw [Form.num.gp n bs hn]
  have k := k.drop
  refine ⟨_, _, _, rfl, cond_false rfl (cond_false (by simp) (cond_false (by simp) ?_))⟩
  refine CallsH.mono (numcheck_spec (k.sl (a := a14)) rfl (vec_le k) (by omega)) ?_
  rintro _ h27 ⟨rfl, m⟩
  have k := (k.next m).drop
  refine ⟨_, rfl, cond_false rfl ⟨_, k.rd (by rfl), _, k.rd (by rfl), _, _, _, k.rd (by rfl), ?_⟩⟩
  refine CallsH.mono (encode_spec (e := e) (hw.in k) (he.in k) (by omega)) ?_
  rintro _ h33 ⟨a34, c34, rfl, k2⟩
  have k := k.add1 k2
  refine ⟨_, _, _, _, rfl, cond_split (fun hc => ?_) (fun hc => ?_)⟩
  · have hc : faultE e ≠ 0 := by simpa using hc
    have e1 : encF e = [] := by unfold encF; rw [if_neg hc]
    rw [e1]
    exact ⟨rfl, k.ext⟩
  have hc : faultE e = 0 := by simpa using hc
  rw [encF_ok hc] at *
  have hel := encE_len hc
  have k := (k.vnil 5 (sz := 1) (by omega)).re (y := BV none 0 0 []) rfl
  refine app_bytes (s := encE e) k (k.drop.sl (a := a34)) (by omega) fun a38 c38 h37 k => ⟨_, _, _, rfl, ?_⟩
  rw [Nat.zero_add, List.nil_append] at *
  refine app_bytes (s := bs) k (hbh.ext k.ext) (by omega) fun a41 c41 h40 k => ⟨_, _, _, rfl, ?_⟩
  refine CallsH.mono (decode_spec (hw.in k) (k.sl (a := a41)) (by rw [List.length_append]) (vec_le k) (by omega)) ?_
  rintro _ h43 ⟨a46, c46, rfl, k2⟩
  have k := k.add1 k2
  have e1 : decB (encE e ++ bs) = (e, (encE e).length, 0) := by
    unfold decB
    rw [Form.ev.gp e bs ⟨hc, he.rng⟩]
  rw [e1] at k ⊢
  have hl := he.len
  refine ⟨_, _, _, _, _, _, _, rfl, k.vnew fun b49 h50 k => k.vall (by rfl) (by rfl) fun h51 k => cond_true rfl (cond_true (by simp) ⟨_, k.rd (by rfl), _, k.rd (by rfl), _, _, _, k.rd (by rfl), _, k.rd (by rfl), _, k.rd (by rfl), _, _, _, k.rd (by rfl), ?_⟩)⟩
  refine CallsH.mono (events_spec (e := e) (f := e) (k.sl (a := a46)) rfl (he.ro.in k).sl hl (by show e.vs.length < _; omega)) ?_
  rintro _ h59 ⟨rfl, m⟩
  have k := k.next m
  refine ⟨_, rfl, cond_true (by simp) ?_⟩
  have k := k.drop.drop.drop
  refine CallsH.mono (front_spec (hw.in k) (k.sl (a := a34)) rfl (vec_le k) (by omega)) ?_
  rintro _ h62 ⟨rfl, m⟩
  exact ⟨_, rfl, rfl, (k.next m).ext⟩
/-! ### Batches -/
theorem unpack_pack {bb : Bytes} (h : packR es = (bb, 0)) (hr : ∀ e ∈ es, rngE e) : unpackR bb = (es, 0) ∧ bb = bodyB es ++ sumB (bodyB es) ∧ 5 ≤ bb.length := by
  unfold packR at h
  split at h
  · cases h
  split at h
  · simp only [Prod.mk.injEq] at h
    exact absurd h.2 ‹_›
  split at h
  · cases h
  rename_i h1 h2 h3
  simp only [Prod.mk.injEq, and_true] at h
  subst h
  have hf : faultEs es = 0 := by simpa using h2
  have hpos : 1 ≤ (bodyB es).length := by
    have := putN_len es.length
    unfold bodyB
    rw [List.length_append]; omega
  have h4 : (sumB (bodyB es)).length = 4 := rfl
  have hl : (bodyB es ++ sumB (bodyB es)).length = (bodyB es).length + 4 := by rw [List.length_append, h4]
  refine ⟨?_, rfl, by omega⟩
  unfold unpackR
  have e1 : (bodyB es ++ sumB (bodyB es)).length - 4 = (bodyB es).length := by omega
  rw [e1, List.take_left, List.drop_left, if_neg (by omega), if_neg (by omega), if_neg (by simp)]
  have hg := Form.bat.gp es [] ⟨by omega, fun e he => ⟨faultEs0.1 hf e he, hr e he⟩⟩
  rw [List.append_nil] at hg
  rw [hg]
  simp
theorem pack_unpack {x : List Ev} (h : unpackR raw = (x, 0)) : packR x = (raw, 0) ∧ (∀ e ∈ x, okE e) := by
  unfold unpackR at h
  split at h
  · cases h
  split at h
  · cases h
  split at h
  · cases h
  rename_i h1 h2 h3
  split at h
  · rename_i es n hn
    split at h
    · cases h
    rename_i h4
    simp only [Prod.mk.injEq, and_true] at h
    subst h
    obtain ⟨p1, p2, p3⟩ := Form.bat.pg _ _ _ hn
    have hle := Form.bat.le hn
    have hbl : (raw.take (raw.length - 4)).length = raw.length - 4 := by rw [List.length_take]; omega
    have hbody : raw.take (raw.length - 4) = bodyB es := by
      have hh : (raw.take (raw.length - 4)).length ≤ n := by omega
      have := List.take_of_length_le hh
      rw [← p3, this]
    have hs : sumB (bodyB es) = raw.drop (raw.length - 4) := by
      rw [← hbody]
      exact Decidable.of_not_not h3
    have hraw : raw = bodyB es ++ sumB (bodyB es) := by
      rw [hs, ← hbody, List.take_append_drop]
    have hlen : (bodyB es).length = raw.length - 4 := by rw [← hbody]; exact hbl
    refine ⟨?_, p1.2⟩
    have hf : faultEs es = 0 := faultEs0.2 fun e he => (p1.2 e he).1
    unfold packR
    rw [if_neg (by omega), if_neg (by simp [hf]), if_neg (by omega), ← hraw]
  · rename_i f hf
    cases h
    exact absurd rfl (Bad.bind (.nb _ _) (fun _ => .rp .ev _) _ _ hf)
theorem unpack_err {f : Int} {x : List Ev} (h : unpackR raw = (x, f)) (hf : f ≠ 0) : x = [] := by
  unfold unpackR at h
  split at h
  · cases h; rfl
  split at h
  · cases h; rfl
  split at h
  · cases h; rfl
  split at h
  · split at h
    · cases h; rfl
    · simp only [Prod.mk.injEq] at h
      exact absurd h.2.symm hf
  · simp only [Prod.mk.injEq] at h
    exact h.1.symm
theorem wireBatchForm_spec (hw : Wd none_ h) (he : RoE none_ h a l es) (hr : Sl h ra (bytesV raw)) (hrl : raw.length = l3) (hrc : l3 ≤ c3) (hb1 : l ≤ 2932031007317) (hb2 : ∀ e ∈ es, e.vs.length ≤ 3518437208780) (hb3 : l3 ≤ 140737488351232) :
    CallsH Tryd.prog 7 #[.slice a l c, .slice ra l3 c3] h (fun v h' => v = .bool true ∧ Ext h h') := by
  refine vf7 _ _ _ _ _ _ h _ ?_
  unfold F7
  have hre : ∀ x ∈ es, rngE x := by
    obtain ⟨xs, q1, q2, q3, q4⟩ := he
    intro x hx
    rw [← q3] at hx
    obtain ⟨y, hy, rfl⟩ := List.mem_map.1 hx
    exact (q2 y hy).rng
  refine CallsH.mono (begun_spec hw) ?_
  rintro _ h2 ⟨rfl, m⟩
  refine ⟨_, rfl, cond_false rfl ?_⟩
  refine CallsH.mono (pack_spec (hw.sl.ext m).ro (he.ext m) (fun e he => by have := hb2 e he; omega)) ?_
  rintro _ h5 ⟨a6, c6, rfl, k⟩
  have m2 := m.then k.ext
  refine ⟨_, _, _, _, rfl, fun h' _ => Ext h h', ?_, ?_⟩
  · refine cond_split (fun hc => ?_) (fun hc => m2)
    have hc : (packR es).2 = 0 := by simpa using hc
    have hp : packR es = ((packR es).1, 0) := by rw [← hc]
    obtain ⟨u1, u2, u3⟩ := unpack_pack hp hre
    refine CallsH.mono (unpack_spec (hw.sl.ext m2).ro (k.sl (a := a6)) rfl (vec_le k)) ?_
    rintro _ h10 ⟨a11, c11, rfl, k2⟩
    rw [u1] at k2 ⊢
    have m3 := m2.then k2.ext
    refine ⟨_, _, _, _, rfl, cond_false rfl ?_⟩
    have hl : es.length = l := by obtain ⟨_, _, _, _, e⟩ := he; exact e
    refine CallsH.mono (lists_spec (LE.ro k2 hre) (he.ext m3) (by show es.length < _; omega) (fun e he => by have := hb2 e he; omega)) ?_
    rintro _ h14 ⟨rfl, m4⟩
    exact ⟨_, rfl, cond_false (by simp) (m3.then m4)⟩
  clear m m2 k
  intro h16 _ _ m
  refine CallsH.mono (unpack_spec (hw.sl.ext m).ro (hr.ext m) hrl hrc) ?_
  rintro _ h20 ⟨a21, c21, rfl, k⟩
  have m2 := m.then k.ext
  refine ⟨_, _, _, _, rfl, cond_split (fun hc => ?_) (fun hc => ?_)⟩
  · have hc : (unpackR raw).2 ≠ 0 := by simpa using hc
    have : (unpackR raw).1 = [] := unpack_err (raw := raw) (f := (unpackR raw).2) rfl hc
    rw [this]
    exact ⟨rfl, m2⟩
  have hc : (unpackR raw).2 = 0 := by simpa using hc
  have hu : unpackR raw = ((unpackR raw).1, 0) := by rw [← hc]
  obtain ⟨p1, p2⟩ := pack_unpack hu
  refine CallsH.mono (pack_spec (hw.sl.ext m2).ro (LE.ro k fun e he => (p2 e he).2) (fun e he => by have := okE_len (p2 e he); omega)) ?_
  rintro _ h24 ⟨a25, c25, rfl, k2⟩
  rw [p1] at k2 ⊢
  have m3 := m2.then k2.ext
  refine ⟨_, _, _, _, rfl, cond_true rfl ?_⟩
  refine CallsH.mono (same_spec (k2.sl (a := a25)) rfl (hr.ext m3) hrl (by show raw.length < _; omega)) ?_
  rintro _ _ ⟨rfl, rfl⟩
  exact ⟨_, rfl, by simp, m3⟩
end Go.Proofs.YtofaihacmoacjaaDoor.F
