/- The laws of wire: numbers and events, as the document says. Conditions: none. -/
import Derived.Test.YtofaihacmoacjaaDoorWC
namespace Go.Proofs.YtofaihacmoacjaaDoor.F
open Go Go.VC Go.Proofs
set_option linter.unusedSimpArgs false
set_option linter.unusedVariables false
set_option maxRecDepth 100000
attribute [local irreducible] CallsH RunsTo PureTo

variable {S F G : Nat → Prop} {h0 h h1 : Heap} {L R L' : List A} {a b : Option Addr} {l c l2 c2 p t at_ : Nat} {bs cs : List UInt8} {bss css : List Bytes} {e : Ev} {v : Val} {es fs : List Ev}
theorem rdV_form (r : Rd Int) : ∃ x y z : Int, rdV r = .tuple #[.int .i64 x, .int .i64 y, .int .i64 z] := by
  cases r with
  | ok x n => exact ⟨_, _, _, rfl⟩
  | err e => exact ⟨_, _, _, rfl⟩
theorem roomB_pre {x : Bytes} (k : Sl h a (bytesV (roomB x))) : Sl h a (bytesV x) := by
  unfold roomB at k
  rw [bytesV_app] at k
  exact k.ro.pre.sl
theorem RoL.ext (k : RoL none_ h0 a l bss) (m : Ext h0 h) : RoL none_ h a l bss := k.at m fun _ h => h.elim
abbrev i64V (n : Int) : Value := .int .i64 n
theorem wireInts_spec {ns : List Int} (hw : Wd none_ h) (hn : Sl h a (ns.map i64V)) (hl : ns.length = l) (hr : RoL none_ h b l2 bss) (hrng : ∀ n ∈ ns, -9223372036854775808 ≤ n ∧ n < 9223372036854775808) (hb : l ≤ 140737488351232) (hb2 : Lim bss 140737488351233) :
    CallsH Tryd.prog 4 #[.slice a l c, .slice b l2 c2] h (fun v h' => v = .bool true ∧ Ext h h') := by
  refine vf4 _ _ _ _ _ _ h _ ?_
  unfold F4
  refine CallsH.mono (begun_spec hw) ?_
  rintro _ h2 ⟨rfl, m⟩
  refine ⟨_, rfl, cond_false rfl ?_⟩
  refine ⟨fun n hh _ i => ∃ j : Nat, i = j ∧ j ≤ l ∧ n = l - j ∧ Ext h hh, ⟨_, 0, rfl, by omega, rfl, m⟩, ?_⟩
  clear m
  rintro n hh _ _ i ⟨j, rfl, hj, rfl, m⟩
  refine cond_split (fun hc => ?_) (fun hc => ?_)
  · have hjl : j < l := Int.ofNat_lt.1 (of_decide_eq_true hc)
    refine (hn.ext m).one (f := i64V) hl (by omega) (by omega) fun ad x hx hcx => ⟨_, hcx, ?_⟩
    rw [Int.toNat_natCast] at hx
    have hxr := hrng x (List.mem_of_getElem? hx)
    refine CallsH.mono (PutInt_spec hxr.1 hxr.2) ?_
    rintro _ h14 ⟨a15, c15, rfl, k⟩
    refine ⟨_, _, _, rfl, ?_⟩
    refine (hn.ext (m.then k.ext)).one (f := i64V) hl (by omega) (by omega) fun ad x' hx' hcx' => ⟨_, hcx', ?_⟩
    rw [Int.toNat_natCast, hx] at hx'
    cases hx'
    refine CallsH.mono (rputInt_spec hxr.1 hxr.2) ?_
    rintro _ h19 ⟨a20, c20, rfl, k2⟩
    have k := k.add1 k2
    refine ⟨_, _, _, rfl, ?_⟩
    refine CallsH.mono (same_spec (k.sl (a := a15)) rfl (k.sl (a := a20)) rfl (by have := putN_len x; omega)) ?_
    rintro _ _ ⟨rfl, rfl⟩
    exact ⟨_, rfl, cond_false (by simp) ⟨_, by omega, j + 1, wrap_nat hjl (by omega), hjl, rfl, m.then k.ext⟩⟩
  clear hj hc
  refine ⟨fun n hh _ i => ∃ j : Nat, i = j ∧ j ≤ l2 ∧ n = l2 - j ∧ Ext h hh, ⟨_, 0, rfl, by omega, rfl, m⟩, ?_⟩
  clear m
  rintro n hh _ _ i ⟨j, rfl, hj, rfl, m⟩
  have htl := hb2.1
  have hl2 : bss.length = l2 := by obtain ⟨_, _, _, _, e⟩ := hr; exact e
  refine cond_split (fun hc => ?_) (fun hc => ⟨rfl, m⟩)
  have hjl : j < l2 := Int.ofNat_lt.1 (of_decide_eq_true hc)
  refine (hr.ext m).one (by omega) (by omega) fun ad x hx hcx r1 r2 r3 => ⟨_, _, _, hcx, ?_⟩
  rw [Int.toNat_natCast] at hx
  have htx := hb2.get hx
  refine CallsH.mono (roomy_spec r1.sl r2 (by omega)) ?_
  rintro _ h34 ⟨a35, rfl, k⟩
  have m2 := m.then k.ext
  refine ⟨_, _, _, rfl, (hr.ext m2).one (by omega) (by omega) fun ad y hy hcy s1 s2 s3 => ⟨_, _, _, hcy, ?_⟩⟩
  rw [Int.toNat_natCast, hx] at hy
  have hy := Option.some.inj hy
  have hyl : y.l = x.l := by rw [← s2, ← r2, hy]
  rw [hyl]
  refine whole_cut (lo := 0) (by omega) ?_
  refine CallsH.mono (int_spec (roomB_pre (k.sl (a := a35))) r2 (by omega)) ?_
  rintro _ _ ⟨rfl, rfl⟩
  obtain ⟨x1, x2, x3, ev⟩ := rdV_form (getN x.bs)
  rw [ev]
  refine ⟨_, _, _, rfl, (hr.ext m2).one (by omega) (by omega) fun ad z hz hcz t1 t2 t3 => ⟨_, _, _, hcz, ?_⟩⟩
  rw [Int.toNat_natCast, hx] at hz
  have hz := Option.some.inj hz
  refine CallsH.mono (rint_spec t1.sl t2 t3 (by have := hb2.get hx; rw [hz] at this; omega)) ?_
  rintro _ h47 ⟨rfl, m3⟩
  have k := k.next m3
  have m4 := m2.then m3
  rw [← hz, ev]
  refine ⟨_, _, _, rfl, cond_false (by simp) (cond_false (by simp) (cond_false (by simp) ((hr.ext m4).one (by omega) (by omega) fun ad w hw2 hcw u1 u2 u3 => ⟨_, _, _, hcw, ?_⟩)))⟩
  rw [Int.toNat_natCast, hx] at hw2
  have hw2 := Option.some.inj hw2
  have hwl : w.l = x.l := by rw [← u2, ← r2, hw2]
  refine CallsH.mono (roomy_spec u1.sl u2 (by omega)) ?_
  rintro _ h54 ⟨a55, rfl, k2⟩
  have k := k.add1 k2
  refine ⟨_, _, _, rfl, ?_⟩
  refine CallsH.mono (same_spec (k.sl (a := a35)) (by rw [roomB_len, r2]) (k.sl (a := a55)) (by rw [roomB_len, u2]) (by omega)) ?_
  rintro _ _ ⟨rfl, rfl⟩
  refine ⟨_, rfl, cond_false (by rw [hw2]; simp) ⟨_, by omega, j + 1, wrap_nat hjl (by omega), hjl, rfl, m4.then k2.ext⟩⟩
theorem encF_len (e : Ev) : (encF e).length ≤ 5000 := by
  unfold encF
  split
  · exact encE_len ‹_›
  · simp
theorem noEv_of {b : Bytes} : (decB b).1.vs.length ≤ 16 := by
  unfold decB
  cases h : evR b with
  | ok x n =>
    obtain ⟨h1, _⟩ := Form.ev.pg _ _ _ h
    exact (fault0.1 h1.1).2.2.2.1
  | err e => exact Nat.zero_le _
theorem wireEvents_spec (hw : Wd none_ h) (he : RoE none_ h a l es) (hr : RoL none_ h b l2 bss) (hb : l ≤ 140737488351232) (hb1 : ∀ e ∈ es, e.vs.length ≤ 3518437208780) (hb2 : Lim bss 140737488351233) :
    CallsH Tryd.prog 3 #[.slice a l c, .slice b l2 c2] h (fun v h' => v = .bool true ∧ Ext h h') := by
  refine vf3 _ _ _ _ _ _ h _ ?_
  unfold F3
  refine CallsH.mono (begun_spec hw) ?_
  rintro _ h2 ⟨rfl, m⟩
  refine ⟨_, rfl, cond_false rfl ?_⟩
  refine ⟨fun n hh _ i => ∃ j : Nat, i = j ∧ j ≤ l ∧ n = l - j ∧ Ext h hh, ⟨_, 0, rfl, by omega, rfl, m⟩, ?_⟩
  clear m
  rintro n hh _ _ i ⟨j, rfl, hj, rfl, m⟩
  refine cond_split (fun hc => ?_) (fun hc => ?_)
  · have hjl : j < l := Int.ofNat_lt.1 (of_decide_eq_true hc)
    refine (he.ext m).one (by omega) (by omega) fun ad x hx c0 c1 c3 kx => ⟨_, c0, _, c1, _, _, _, c3, ?_⟩
    rw [Int.toNat_natCast] at hx
    have hxb := hb1 _ (List.mem_of_getElem? hx)
    refine CallsH.mono (wide_spec kx hxb) ?_
    rintro _ h16 ⟨a', rfl, k⟩
    refine ⟨_, _, _, _, _, _, _, _, rfl, k.vnew fun b21 h22 k => k.vall (by rfl) (by rfl) fun h23 k => ⟨_, k.rd (by rfl), _, k.rd (by rfl), _, _, _, k.rd (by rfl), ?_⟩⟩
    have hroom : Sl h23 a' ((roomV x.e.vs).flatMap valV) := k.sl (a := a')
    have m2 := m.then k.ext
    refine CallsH.mono (encode_spec (e := x.e) (hw.sl.ext m2).ro ⟨(roomV_pre hroom).ro, rfl, kx.rng⟩ (by omega)) ?_
    rintro _ h28 ⟨a29, c29, rfl, k2⟩
    have k := k.add1 k2
    have m3 := m2.then k2.ext
    refine ⟨_, _, _, _, rfl, (he.ext m3).one (by omega) (by omega) fun ad y hy d0 d1 d3 ky => ⟨_, d0, _, d1, _, _, _, d3, ?_⟩⟩
    rw [Int.toNat_natCast, hx] at hy
    have hy := Option.some.inj hy
    refine CallsH.mono (rencode_spec ky (by rw [← hy]; omega)) ?_
    rintro _ h36 ⟨a37, c37, rfl, k3⟩
    have k := k.add1 k3
    have m4 := m3.then k3.ext
    rw [← hy] at k ⊢
    refine ⟨_, _, _, _, rfl, cond_false (by simp) ?_⟩
    refine CallsH.mono (same_spec (k.sl (a := a29)) rfl (k.sl (a := a37)) rfl (by have := encF_len x.e; omega)) ?_
    rintro _ _ ⟨rfl, rfl⟩
    refine ⟨_, rfl, cond_false (by simp) ((he.ext m4).one (by omega) (by omega) fun ad z hz e0 e1 e3 kz => ⟨_, e0, _, e1, _, _, _, e3, ?_⟩)⟩
    rw [Int.toNat_natCast, hx] at hz
    have hz := Option.some.inj hz
    have kz2 := kz
    rw [← hz] at kz2 ⊢
    refine CallsH.mono (tight_spec (e := x.e) (b := a') (k.sl (a := a')) kz2 (Nat.le_refl _) hxb) ?_
    rintro _ h47 ⟨rfl, m5⟩
    exact ⟨_, rfl, cond_false rfl ⟨_, by omega, j + 1, wrap_nat hjl (by omega), hjl, rfl, m4.then m5⟩⟩
  clear hj hc
  refine ⟨fun n hh _ i => ∃ j : Nat, i = j ∧ j ≤ l2 ∧ n = l2 - j ∧ Ext h hh, ⟨_, 0, rfl, by omega, rfl, m⟩, ?_⟩
  clear m
  rintro n hh _ _ i ⟨j, rfl, hj, rfl, m⟩
  have htl := hb2.1
  have hl2 : bss.length = l2 := by obtain ⟨_, _, _, _, e⟩ := hr; exact e
  refine cond_split (fun hc => ?_) (fun hc => ⟨rfl, m⟩)
  have hjl : j < l2 := Int.ofNat_lt.1 (of_decide_eq_true hc)
  refine (hr.ext m).one (by omega) (by omega) fun ad x hx hcx r1 r2 r3 => ⟨_, _, _, hcx, ?_⟩
  rw [Int.toNat_natCast] at hx
  have htx := hb2.get hx
  refine CallsH.mono (roomy_spec r1.sl r2 (by omega)) ?_
  rintro _ h34 ⟨a35, rfl, k⟩
  have m2 := m.then k.ext
  refine ⟨_, _, _, rfl, (hr.ext m2).one (by omega) (by omega) fun ad y hy hcy s1 s2 s3 => ⟨_, _, _, hcy, ?_⟩⟩
  rw [Int.toNat_natCast, hx] at hy
  have hy := Option.some.inj hy
  have hyl : y.l = x.l := by rw [← s2, ← r2, hy]
  rw [hyl]
  refine whole_cut (lo := 0) (by omega) ?_
  refine CallsH.mono (decode_spec (hw.sl.ext m2).ro (roomB_pre (k.sl (a := a35))) r2 (by omega) (by omega)) ?_
  rintro _ h65 ⟨a68, c68, rfl, k2⟩
  have k := k.add1 k2
  refine ⟨_, _, _, _, _, _, _, rfl, k.vnew fun b71 h72 k => k.vall (by rfl) (by rfl) fun h73 k => ?_⟩
  have m3 := m.then k.ext
  refine (hr.ext m3).one (by omega) (by omega) fun ad z hz hcz t1 t2 t3 => ⟨_, _, _, hcz, ?_⟩
  rw [Int.toNat_natCast, hx] at hz
  have hz := Option.some.inj hz
  refine CallsH.mono (rdecode_spec t1.sl t2 t3 (by have := hb2.get hx; rw [hz] at this; omega)) ?_
  rintro _ h77 ⟨a80, c80, rfl, k3⟩
  rw [← hz] at k3 ⊢
  have k := k.add1 k3
  refine ⟨_, _, _, _, _, _, _, rfl, k.vnew fun b83 h84 k => k.vall (by rfl) (by rfl) fun h85 k => ⟨_, k.rd (by rfl), _, k.rd (by rfl), _, _, _, k.rd (by rfl), _, k.rd (by rfl), _, k.rd (by rfl), _, _, _, k.rd (by rfl), ?_⟩⟩
  refine CallsH.mono (events_spec (e := (decB x.bs).1) (f := (decB x.bs).1) (k.sl (a := a68)) rfl (k.sl (a := a80)) rfl (by have := noEv_of (b := x.bs); omega)) ?_
  rintro _ h93 ⟨rfl, m5⟩
  have k := k.next m5
  have m4 := m.then k.ext
  refine ⟨_, rfl, cond_false (by simp) (cond_false (by simp) (cond_false (by simp) ((hr.ext m4).one (by omega) (by omega) fun ad w hw2 hcw u1 u2 u3 => ⟨_, _, _, hcw, ?_⟩)))⟩
  rw [Int.toNat_natCast, hx] at hw2
  have hw2 := Option.some.inj hw2
  have hwl : w.l = x.l := by rw [← u2, ← r2, hw2]
  refine CallsH.mono (roomy_spec u1.sl u2 (by omega)) ?_
  rintro _ h54 ⟨a55, rfl, k2⟩
  have k := k.add1 k2
  refine ⟨_, _, _, rfl, ?_⟩
  refine CallsH.mono (same_spec (k.sl (a := a35)) (by rw [roomB_len, r2]) (k.sl (a := a55)) (by rw [roomB_len, u2]) (by omega)) ?_
  rintro _ _ ⟨rfl, rfl⟩
  refine ⟨_, rfl, cond_false (by rw [hw2]; simp) ⟨_, by omega, j + 1, wrap_nat hjl (by omega), hjl, rfl, m4.then k2.ext⟩⟩
end Go.Proofs.YtofaihacmoacjaaDoor.F
