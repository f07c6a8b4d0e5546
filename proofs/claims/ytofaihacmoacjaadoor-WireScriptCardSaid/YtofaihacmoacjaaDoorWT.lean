/- The laws of wire: steps of a script, and what they answer. Conditions: none. -/
import Derived.Test.YtofaihacmoacjaaDoorWO
namespace Go.Proofs.YtofaihacmoacjaaDoor.F
open Go Go.VC Go.Proofs
set_option linter.unusedSimpArgs false
set_option linter.unusedVariables false
set_option maxRecDepth 100000
attribute [local irreducible] CallsH RunsTo PureTo

structure Op where
  k : Int
  n : Int
  raw : Bytes
  e : Ev
  es : List Ev
/-- A step, with the places of its lists. -/
structure Om where
  ra : Option Addr
  rc : Nat
  va : Option Addr
  vc : Nat
  ea : Option Addr
  ec : Nat
  o : Op
abbrev opC (m : Om) : List Value := [.int .i64 m.o.k, .int .i64 m.o.n, .slice m.ra m.o.raw.length m.rc, .string (bA m.o.e.t), .int .i64 m.o.e.tm, .slice m.va m.o.e.vs.length m.vc, .slice m.ea m.o.es.length m.ec]
abbrev opV (m : Om) : Value := .agg (opC m).toArray
abbrev zeroO : Array Value := #[.int .i64 0, .int .i64 0, .slice none 0 0, .string (ByteArray.mk #[]), .int .i64 0, .slice none 0 0, .slice none 0 0]
structure OpRo (h : Heap) (m : Om) : Prop where
  raw : Sl h m.ra (bytesV m.o.raw)
  cap : m.o.raw.length ≤ m.rc
  vs : Sl h m.va (m.o.e.vs.flatMap valV)
  es : RoE none_ h m.ea m.o.es.length m.o.es
def big : Nat := 137438953472
structure OpOk (T : Nat) (o : Op) : Prop where
  n : -9223372036854775808 ≤ o.n ∧ o.n < 9223372036854775808
  rng : rngE o.e
  raw : o.raw.length ≤ 140737488351232
  vs : o.e.vs.length ≤ 3518437208780
  t : o.e.t.length ≤ T
  len : o.es.length ≤ 2932031007317
  es : ∀ x ∈ o.es, rngE x ∧ x.vs.length ≤ 3518437208780 ∧ x.t.length ≤ T
/-- What a call answers. -/
structure Td where
  b : Bytes
  n : Int
  k : Int
  es : List Ev
  f : Int
structure Tm where
  ba : Option Addr
  bc : Nat
  ea : Option Addr
  ec : Nat
  t : Td
abbrev tdC (m : Tm) : List Value := [.slice m.ba m.t.b.length m.bc, .int .i64 m.t.n, .int .i64 m.t.k, .slice m.ea m.t.es.length m.ec, .int .i64 m.t.f]
abbrev tdV (m : Tm) : Value := .agg (tdC m).toArray
def runP (o : Op) : Td :=
  if o.k = 1 then ⟨putN o.n, 0, 0, [], 0⟩
  else if o.k = 2 then (match getN o.raw with | .ok x n => ⟨[], x, n, [], 0⟩ | .err e => ⟨[], 0, 0, [], e⟩)
  else if o.k = 3 then ⟨encF o.e, 0, 0, [], faultE o.e⟩
  else if o.k = 4 then ⟨[], 0, (decB o.raw).2.1, [(decB o.raw).1], (decB o.raw).2.2⟩
  else if o.k = 5 then ⟨(packR o.es).1, 0, 0, [], (packR o.es).2⟩
  else if o.k = 6 then ⟨[], 0, 0, (unpackR o.raw).1, (unpackR o.raw).2⟩
  else ⟨[], 0, 0, [], 0⟩
theorem dec_rng (b : Bytes) : rngE (decB b).1 := by
  unfold decB
  cases h : evR b with
  | ok x n => exact (Form.ev.pg _ _ _ h).1.2
  | err e => intro v hv; cases hv
theorem run_rng (o : Op) : ∀ e ∈ (runP o).es, rngE e ∧ e.vs.length ≤ 16 := by
  intro e he
  unfold runP at he
  split at he
  · cases he
  split at he
  · cases hg : getN o.raw with
    | ok x n => rw [hg] at he; cases he
    | err f => rw [hg] at he; cases he
  split at he
  · cases he
  split at he
  · rcases List.mem_singleton.1 he with rfl
    exact ⟨dec_rng _, noEv_of⟩
  split at he
  · cases he
  split at he
  · exact ⟨(unpack_rng e he).2, okE_len (unpack_rng e he)⟩
  · cases he
theorem run_len (o : Op) : (runP o).b.length ≤ 1048576 ∧ (runP o).es.length ≤ 1024 := by
  unfold runP
  split
  · have := putN_len o.n
    exact ⟨by show (putN o.n).length ≤ _; omega, Nat.zero_le _⟩
  split
  · cases hg : getN o.raw with
    | ok x n => exact ⟨Nat.zero_le _, Nat.zero_le _⟩
    | err f => exact ⟨Nat.zero_le _, Nat.zero_le _⟩
  split
  · have := encF_len o.e
    exact ⟨by show (encF o.e).length ≤ _; omega, Nat.zero_le _⟩
  split
  · exact ⟨Nat.zero_le _, by simp⟩
  split
  · exact ⟨packR_len _, Nat.zero_le _⟩
  split
  · exact ⟨Nat.zero_le _, unpack_len _⟩
  · exact ⟨Nat.zero_le _, Nat.zero_le _⟩
variable {S F G : Nat → Prop} {h0 h h1 : Heap} {L R L' : List A} {a b : Option Addr} {l c l2 c2 p t at_ : Nat} {bs cs raw : List UInt8} {e : Ev} {v : Val} {es fs : List Ev}
abbrev BVo (m : Om) : A := BV m.ra m.o.raw.length m.rc m.o.raw
abbrev VVo (m : Om) : A := VV m.va m.o.e.vs.length m.vc m.o.e.vs
abbrev LEo (m : Om) : A := LE m.ea m.o.es.length m.ec m.o.es
abbrev BVt (m : Tm) : A := BV m.ba m.t.b.length m.bc m.t.b
abbrev LEt (m : Tm) : A := LE m.ea m.t.es.length m.ec m.t.es
theorem op_ro {m : Om} {T : Nat} (k : St S h0 h (BVo m :: VVo m :: LEo m :: R)) (ok : OpOk T m.o) : OpRo h m :=
  ⟨k.sl (a := m.ra), vec_le k, k.drop.sl (a := m.va), LE.ro k.drop.drop fun e he => (ok.es e he).1⟩
theorem OpRo.ext {m : Om} (k : OpRo h0 m) (x : Ext h0 h) : OpRo h m := ⟨k.raw.ext x, k.cap, k.vs.ext x, k.es.ext x⟩
theorem copy_vals (k : St S h0 h R) {vs : List Val} {x : Option Addr} {cx : Nat} (hs : Sl h x (vs.flatMap valV)) (hb : vs.length ≤ 3518437208780) {K : KV}
    (q : ∀ a' c' h', St S h0 h' (VV a' vs.length c' vs :: R) → K (.slice a' vs.length c') h') : RunsTo Tryd.prog (Builtin.append_ #[25, 25] 25 #[.slice none 0 0, .slice x vs.length cx]) h K := by
  have k : St S h0 h (VV none 0 0 [] :: R) := k.vnil 83 (sz := 4) (by omega)
  have := k.app T25 und25 (by simp) (n := vs.length) (Src.slice (c := cx) hs (flatMap_len (f := valV) (sz := 4) (fun _ => rfl) vs)) (fun w hw => by
    obtain ⟨x, _, hx⟩ := List.mem_flatMap.1 hw
    exact oneC_val x w hx) (by omega) (K := K) (ty := 25) fun a' c' h' k => by
    rw [Nat.zero_add] at k ⊢
    exact q a' c' h' k
  exact this
theorem copied_spec (he : RoE none_ h a l es) (hb : l ≤ 2932031007317) (hb2 : ∀ e ∈ es, e.vs.length ≤ 3518437208780) : CallsH Tryd.prog 71 #[.slice a l c] h (fun v h' => ∃ a' c', v = .slice a' l c' ∧ St none_ h h' [LE a' l c' es]) := by
  refine vf71 _ _ _ h _ ?_
  unfold F71
  have hl : es.length = l := by obtain ⟨_, _, _, _, e⟩ := he; exact e
  refine ⟨fun n hh a' l' c' i => ∃ j : Nat, i = j ∧ j ≤ l ∧ n = l - j ∧ j = l' ∧ St none_ h hh [LE a' j c' (es.take j)], ⟨_, 0, rfl, by omega, rfl, rfl, St.lenil (St.fresh h)⟩, ?_⟩
  rintro n hh _ a' _ c' i ⟨j, rfl, hj, rfl, rfl, k⟩
  refine cond_split (fun hc => ?_) (fun hc => ?_)
  · have hjl : j < l := Int.ofNat_lt.1 (of_decide_eq_true hc)
    refine he.old k.ext (by omega) (by omega) fun ad x hx c0 c1 c3 kx => ⟨_, c0, _, c1, _, _, _, c3, ?_⟩
    rw [Int.toNat_natCast] at hx
    have hxb := hb2 _ (List.mem_of_getElem? hx)
    refine k.vnew fun b12 h13 k => k.vall (by rfl) (by rfl) fun h14 k => ⟨_, _, _, k.rd (by rfl), ?_⟩
    refine copy_vals (vs := x.e.vs) k (kx.ro.in k).sl (by omega) fun a18 c18 h17 k => ⟨_, _, _, rfl, ?_⟩
    refine k.vst (Nat.le_of_ble_eq_true (by rfl)) fun h19 k => ⟨_, k.rd (by rfl), _, k.rd (by rfl), _, _, _, k.rd (by rfl), k.vnew fun b23 h24 k => ?_⟩
    have k := k.sel 4 [0, 1, 3, 2] rfl (by decide) (L' := [A.blk b23 (seV ⟨a18, c18, x.e⟩).toArray 27, VSe ⟨a18, c18, x.e⟩, LE a' j c' (es.take j), _]) (by rfl)
    refine app_ev k (by omega) fun a27 c27 h26 k => ⟨_, _, _, rfl, _, by omega, j + 1, wrap_nat hjl (by omega), hjl, rfl, rfl, ?_⟩
    rw [take_next hx]
    exact k.only
  · have hjl : j = l := by
      have : ¬ (j : Int) < l := of_decide_eq_false hc
      omega
    subst hjl
    rw [List.take_of_length_le (by omega)] at k
    exact ⟨a', c', rfl, k⟩
theorem alone_spec {m : Om} {T : Nat} (hr : OpRo h m) (ok : OpOk T m.o) : CallsH Tryd.prog 39 #[opV m] h (fun v h' => ∃ m2 : Om, v = opV m2 ∧ m2.o = m.o ∧ St none_ h h' [BVo m2, VVo m2, LEo m2]) := by
  refine vf39 _ _ _ _ _ _ _ _ _ _ _ _ _ h _ ?_
  unfold F39
  have k := St.fresh h
  have hbig : big = 137438953472 := rfl
  have hb1 := ok.raw
  have hb2 := ok.vs
  have hb3 := ok.len
  refine k.vnew fun b1 h2 k => k.vnew fun b3 h4 k => ⟨_, _, _, k.rd (by rfl), ?_⟩
  refine copy_bytes (bs := m.o.raw) k (hr.raw.ext k.ext) (by omega) fun a8 c8 h7 k => ⟨_, _, _, rfl, ?_⟩
  refine k.vst (Nat.le_of_ble_eq_true (by rfl)) fun h9 k => ⟨_, _, _, k.rd (by rfl), ?_⟩
  refine copy_vals (vs := m.o.e.vs) k (hr.vs.ext k.ext) (by omega) fun a13 c13 h12 k => ⟨_, _, _, rfl, ?_⟩
  refine k.vst (Nat.le_of_ble_eq_true (by rfl)) fun h14 k => ⟨_, _, _, k.rd (by rfl), ?_⟩
  refine CallsH.mono (copied_spec (hr.es.ext k.ext) (by omega) (fun e he => (ok.es e he).2.1)) ?_
  rintro _ h17 ⟨a18, c18, rfl, k2⟩
  have k := k.add1 k2
  refine ⟨_, _, _, rfl, k.vst (Nat.le_of_ble_eq_true (by rfl)) fun h19 k => ⟨_, k.rd (by rfl), _, k.rd (by rfl), _, _, _, k.rd (by rfl), _, k.rd (by rfl), _, k.rd (by rfl), _, _, _, k.rd (by rfl), _, _, _, k.rd (by rfl), k.vall (by rfl) (by rfl) fun h27 k => ⟨_, k.rd (by rfl), _, k.rd (by rfl), _, _, _, k.rd (by rfl), _, k.rd (by rfl), _, k.rd (by rfl), _, _, _, k.rd (by rfl), _, _, _, k.rd (by rfl), ⟨a8, c8, a13, c13, a18, c18, m.o⟩, rfl, rfl, ?_⟩⟩⟩
  exact (k.sel 5 [2, 1, 0, 3, 4] rfl (by decide) (L' := [_, _, _, _, _]) (by rfl)).only3
/-- An event by itself, as a list. -/
theorem LE.single {x : Se} {bb : Nat} (k : St S h0 h (A.blk bb (seV x).toArray 27 :: VSe x :: R)) : St S h0 h (LE (some ⟨bb, 0, none⟩) 1 1 [x.e] :: R) := by
  refine LE.close (xs := [x]) rfl ?_
  have k := k.blkvec (n := 1) (sz := 3) rfl (by omega) (by omega)
  have k := (k.pull1.all0.pull1).allIn.pull1
  have e : [x].flatMap seV = seV x := by simp
  rw [e]
  exact k
theorem run1 {o : Op} (h : o.k = 1) : runP o = ⟨putN o.n, 0, 0, [], 0⟩ := by unfold runP; rw [if_pos h]
theorem run2 {o : Op} (h : o.k = 2) : runP o = (match getN o.raw with | .ok x n => ⟨[], x, n, [], 0⟩ | .err e => ⟨[], 0, 0, [], e⟩) := by unfold runP; rw [if_neg (by omega), if_pos h]
theorem run3 {o : Op} (h : o.k = 3) : runP o = ⟨encF o.e, 0, 0, [], faultE o.e⟩ := by unfold runP; rw [if_neg (by omega), if_neg (by omega), if_pos h]
theorem run4 {o : Op} (h : o.k = 4) : runP o = ⟨[], 0, (decB o.raw).2.1, [(decB o.raw).1], (decB o.raw).2.2⟩ := by unfold runP; rw [if_neg (by omega), if_neg (by omega), if_neg (by omega), if_pos h]
theorem run5 {o : Op} (h : o.k = 5) : runP o = ⟨(packR o.es).1, 0, 0, [], (packR o.es).2⟩ := by unfold runP; rw [if_neg (by omega), if_neg (by omega), if_neg (by omega), if_neg (by omega), if_pos h]
theorem run6 {o : Op} (h : o.k = 6) : runP o = ⟨[], 0, 0, (unpackR o.raw).1, (unpackR o.raw).2⟩ := by unfold runP; rw [if_neg (by omega), if_neg (by omega), if_neg (by omega), if_neg (by omega), if_neg (by omega), if_pos h]
theorem run0 {o : Op} (h1 : o.k ≠ 1) (h2 : o.k ≠ 2) (h3 : o.k ≠ 3) (h4 : o.k ≠ 4) (h5 : o.k ≠ 5) (h6 : o.k ≠ 6) : runP o = ⟨[], 0, 0, [], 0⟩ := by unfold runP; rw [if_neg h1, if_neg h2, if_neg h3, if_neg h4, if_neg h5, if_neg h6]
theorem rdV_run (r : Rd Int) : ∃ x y z : Int, rdV r = .tuple #[.int .i64 x, .int .i64 y, .int .i64 z] ∧ (match r with | .ok x n => (⟨[], x, n, [], 0⟩ : Td) | .err e => ⟨[], 0, 0, [], e⟩) = ⟨[], x, y, [], z⟩ := by
  cases r with
  | ok x n => exact ⟨_, _, _, rfl, rfl⟩
  | err e => exact ⟨_, _, _, rfl, rfl⟩
theorem ran_spec {m : Om} {T : Nat} (hw : Wd none_ h) (hr : OpRo h m) (ok : OpOk T m.o) : CallsH Tryd.prog 40 #[opV m] h (fun v h' => ∃ m2 : Tm, v = tdV m2 ∧ m2.t = runP m.o ∧ St none_ h h' [BVt m2, LEt m2]) := by
  refine vf40 _ _ _ _ _ _ _ _ _ _ _ _ _ h _ ?_
  unfold F40
  have k := St.fresh h
  have hbig : big = 137438953472 := rfl
  have hb1 := ok.raw
  have hb2 := ok.vs
  have hb3 := ok.len
  have nilB : ∀ {h' : Heap} {R : List A}, St none_ h h' R → St none_ h h' (BV none 0 0 [] :: R) := fun k => (k.vnil 5 (sz := 1) (by omega)).re (y := BV none 0 0 []) rfl
  refine k.vnew fun b1 h2 k => k.vnew fun b3 h4 k => ⟨_, k.rd (by rfl), cond_split (fun hc => ?_) (fun hc => ?_)⟩
  · have hc : m.o.k = 1 := by simpa using hc
    refine ⟨_, k.rd (by rfl), CallsH.mono (PutInt_spec ok.n.1 ok.n.2) ?_⟩
    rintro _ h8 ⟨a9, c9, rfl, k2⟩
    have k := k.add1 k2
    refine ⟨_, _, _, rfl, k.vall (by rfl) (by rfl) fun h10 k => ⟨_, _, _, k.rd (by rfl), _, k.rd (by rfl), _, k.rd (by rfl), _, _, _, k.rd (by rfl), _, k.rd (by rfl), ⟨a9, c9, none, 0, ⟨putN m.o.n, 0, 0, [], 0⟩⟩, rfl, (run1 hc).symm, ?_⟩⟩
    exact (St.lenil k).pull1.only2
  have k1 : m.o.k ≠ 1 := by simpa using hc
  clear hc
  refine cond_split (fun hc => ?_) (fun hc => ?_)
  · have hc : m.o.k = 2 := by simpa using hc
    refine ⟨_, _, _, k.rd (by rfl), CallsH.mono (int_spec (hr.raw.ext k.ext) rfl (by omega)) ?_⟩
    rintro _ _ ⟨rfl, rfl⟩
    obtain ⟨x1, x2, x3, ev, er⟩ := rdV_run (getN m.o.raw)
    rw [ev]
    refine ⟨_, _, _, rfl, k.vall (by rfl) (by rfl) fun h10 k => ⟨_, _, _, k.rd (by rfl), _, k.rd (by rfl), _, k.rd (by rfl), _, _, _, k.rd (by rfl), _, k.rd (by rfl), ⟨none, 0, none, 0, ⟨[], x1, x2, [], x3⟩⟩, rfl, ?_, ?_⟩⟩
    · rw [run2 hc]; exact er.symm
    · exact (nilB (St.lenil k)).only2
  have k2 : m.o.k ≠ 2 := by simpa using hc
  clear hc
  refine cond_split (fun hc => ?_) (fun hc => ?_)
  · have hc : m.o.k = 3 := by simpa using hc
    refine ⟨_, k.rd (by rfl), _, k.rd (by rfl), _, _, _, k.rd (by rfl), ?_⟩
    refine CallsH.mono (encode_spec (e := m.o.e) (hw.in k) ⟨(hr.vs.ext k.ext).ro, rfl, ok.rng⟩ (by omega)) ?_
    rintro _ h8 ⟨a9, c9, rfl, k2⟩
    have k := k.add1 k2
    refine ⟨_, _, _, _, rfl, k.vall (by rfl) (by rfl) fun h10 k => ⟨_, _, _, k.rd (by rfl), _, k.rd (by rfl), _, k.rd (by rfl), _, _, _, k.rd (by rfl), _, k.rd (by rfl), ⟨a9, c9, none, 0, ⟨encF m.o.e, 0, 0, [], faultE m.o.e⟩⟩, rfl, (run3 hc).symm, ?_⟩⟩
    exact (St.lenil k).pull1.only2
  have k3 : m.o.k ≠ 3 := by simpa using hc
  clear hc
  refine cond_split (fun hc => ?_) (fun hc => ?_)
  · have hc : m.o.k = 4 := by simpa using hc
    refine ⟨_, _, _, k.rd (by rfl), ?_⟩
    refine CallsH.mono (decode_spec (hw.in k) (hr.raw.ext k.ext) rfl hr.cap (by omega)) ?_
    rintro _ h43 ⟨a46, c46, rfl, k2⟩
    have k := k.add1 k2
    refine ⟨_, _, _, _, _, _, _, rfl, k.vnew fun b49 h50 k => k.vall (by rfl) (by rfl) fun h51 k => ⟨_, k.rd (by rfl), _, k.rd (by rfl), _, _, _, k.rd (by rfl), k.vnew fun b55 h56 k => ?_⟩⟩
    refine k.vall (by rfl) (by rfl) fun h10 k => ⟨_, _, _, k.rd (by rfl), _, k.rd (by rfl), _, k.rd (by rfl), _, _, _, k.rd (by rfl), _, k.rd (by rfl), ⟨none, 0, some ⟨b55, 0, none⟩, 1, ⟨[], 0, (decB m.o.raw).2.1, [(decB m.o.raw).1], (decB m.o.raw).2.2⟩⟩, rfl, (run4 hc).symm, ?_⟩
    have k := (k.sel 5 [0, 2, 1, 3, 4] rfl (by decide) (L' := [A.blk b55 (seV ⟨a46, c46, (decB m.o.raw).1⟩).toArray 27, VSe ⟨a46, c46, (decB m.o.raw).1⟩, _, _, _]) (by rfl)).only2
    exact nilB (LE.single k)
  have k4 : m.o.k ≠ 4 := by simpa using hc
  clear hc
  refine cond_split (fun hc => ?_) (fun hc => ?_)
  · have hc : m.o.k = 5 := by simpa using hc
    refine ⟨_, _, _, k.rd (by rfl), ?_⟩
    refine CallsH.mono (pack_spec (hw.in k) (hr.es.ext k.ext) (fun e he => by have := (ok.es e he).2.1; omega)) ?_
    rintro _ h8 ⟨a9, c9, rfl, k2⟩
    have k := k.add1 k2
    refine ⟨_, _, _, _, rfl, k.vall (by rfl) (by rfl) fun h10 k => ⟨_, _, _, k.rd (by rfl), _, k.rd (by rfl), _, k.rd (by rfl), _, _, _, k.rd (by rfl), _, k.rd (by rfl), ⟨a9, c9, none, 0, ⟨(packR m.o.es).1, 0, 0, [], (packR m.o.es).2⟩⟩, rfl, (run5 hc).symm, ?_⟩⟩
    exact (St.lenil k).pull1.only2
  have k5 : m.o.k ≠ 5 := by simpa using hc
  clear hc
  refine cond_split (fun hc => ?_) (fun hc => ?_)
  · have hc : m.o.k = 6 := by simpa using hc
    refine ⟨_, _, _, k.rd (by rfl), ?_⟩
    refine CallsH.mono (unpack_spec (hw.in k) (hr.raw.ext k.ext) rfl hr.cap) ?_
    rintro _ h8 ⟨a9, c9, rfl, k2⟩
    have k := k.add1 k2
    refine ⟨_, _, _, _, rfl, k.vall (by rfl) (by rfl) fun h10 k => ⟨_, _, _, k.rd (by rfl), _, k.rd (by rfl), _, k.rd (by rfl), _, _, _, k.rd (by rfl), _, k.rd (by rfl), ⟨none, 0, a9, c9, ⟨[], 0, 0, (unpackR m.o.raw).1, (unpackR m.o.raw).2⟩⟩, rfl, (run6 hc).symm, ?_⟩⟩
    exact (nilB k).only2
  have k6 : m.o.k ≠ 6 := by simpa using hc
  refine k.vall (by rfl) (by rfl) fun h10 k => ⟨_, _, _, k.rd (by rfl), _, k.rd (by rfl), _, k.rd (by rfl), _, _, _, k.rd (by rfl), _, k.rd (by rfl), ⟨none, 0, none, 0, ⟨[], 0, 0, [], 0⟩⟩, rfl, (run0 k1 k2 k3 k4 k5 k6).symm, ?_⟩
  exact (nilB (St.lenil k)).only2
theorem meant_spec {m0 : Om} {T : Nat} (hr0 : OpRo h m0) (ok0 : OpOk T m0.o) : CallsH Tryd.prog 41 #[opV m0] h (fun v h' => ∃ m2 : Tm, v = tdV m2 ∧ m2.t = runP m0.o ∧ St none_ h h' [BVt m2, LEt m2]) := by
  refine vf41 _ _ _ _ _ _ _ _ _ _ _ _ _ h _ ?_
  unfold F41
  have k := St.fresh h
  have hbig : big = 137438953472 := rfl
  have nilB : ∀ {h' : Heap} {R : List A}, St none_ h h' R → St none_ h h' (BV none 0 0 [] :: R) := fun k => (k.vnil 5 (sz := 1) (by omega)).re (y := BV none 0 0 []) rfl
  refine k.vnew fun b1 h2 k => k.vnew fun b3 h4 k => ⟨_, k.rd (by rfl), _, k.rd (by rfl), _, _, _, k.rd (by rfl), _, k.rd (by rfl), _, k.rd (by rfl), _, _, _, k.rd (by rfl), _, _, _, k.rd (by rfl), ?_⟩
  refine CallsH.mono (alone_spec (hr0.ext k.ext) ok0) ?_
  rintro _ h13 ⟨m, rfl, hm, kk⟩
  have k : St none_ h h13 [BVo m, VVo m, LEo m, A.blk b3 #[.slice none 0 0, .int .i64 0, .int .i64 0, .slice none 0 0, .int .i64 0] 75, A.blk b1 (opC m0).toArray 71] := k.add kk
  have ok : OpOk T m.o := by rw [hm]; exact ok0
  rw [← hm]
  have hb1 := ok.raw
  have hb2 := ok.vs
  have hb3 := ok.len
  refine ⟨_, _, _, _, _, _, _, _, _, _, _, _, _, rfl, k.vnew fun b21 h22 k => k.vall (by rfl) (by rfl) fun h23 k => ?_⟩
  have hr : OpRo h23 m := op_ro k.drop ok
  have k : St none_ h h23 [A.blk b21 (opC m).toArray 71, A.blk b3 #[.slice none 0 0, .int .i64 0, .int .i64 0, .slice none 0 0, .int .i64 0] 75, BVo m, VVo m, LEo m, A.blk b1 (opC m0).toArray 71] := k.sel 6 [0, 4, 1, 2, 3, 5] rfl (by decide) (by rfl)
  have k := k.only2
  refine ⟨_, k.rd (by rfl), cond_split (fun hc => ?_) (fun hc => ?_)⟩
  · have hc : m.o.k = 1 := by simpa using hc
    refine ⟨_, k.rd (by rfl), CallsH.mono (rputInt_spec ok.n.1 ok.n.2) ?_⟩
    rintro _ h8 ⟨a9, c9, rfl, k2⟩
    have k := k.add1 k2
    refine ⟨_, _, _, rfl, k.vall (by rfl) (by rfl) fun h10 k => ⟨_, _, _, k.rd (by rfl), _, k.rd (by rfl), _, k.rd (by rfl), _, _, _, k.rd (by rfl), _, k.rd (by rfl), ⟨a9, c9, none, 0, ⟨putN m.o.n, 0, 0, [], 0⟩⟩, rfl, (run1 hc).symm, ?_⟩⟩
    exact (St.lenil k).pull1.only2
  have k1 : m.o.k ≠ 1 := by simpa using hc
  clear hc
  refine cond_split (fun hc => ?_) (fun hc => ?_)
  · have hc : m.o.k = 2 := by simpa using hc
    refine ⟨_, _, _, k.rd (by rfl), CallsH.mono (rint_spec hr.raw rfl hr.cap (by omega)) ?_⟩
    rintro _ hz ⟨rfl, mz⟩
    have k := k.next mz
    obtain ⟨x1, x2, x3, ev, er⟩ := rdV_run (getN m.o.raw)
    rw [ev]
    refine ⟨_, _, _, rfl, k.vall (by rfl) (by rfl) fun h10 k => ⟨_, _, _, k.rd (by rfl), _, k.rd (by rfl), _, k.rd (by rfl), _, _, _, k.rd (by rfl), _, k.rd (by rfl), ⟨none, 0, none, 0, ⟨[], x1, x2, [], x3⟩⟩, rfl, ?_, ?_⟩⟩
    · rw [run2 hc]; exact er.symm
    · exact (nilB (St.lenil k)).only2
  have k2 : m.o.k ≠ 2 := by simpa using hc
  clear hc
  refine cond_split (fun hc => ?_) (fun hc => ?_)
  · have hc : m.o.k = 3 := by simpa using hc
    refine ⟨_, k.rd (by rfl), _, k.rd (by rfl), _, _, _, k.rd (by rfl), ?_⟩
    refine CallsH.mono (rencode_spec (e := m.o.e) ⟨hr.vs.ro, rfl, ok.rng⟩ (by omega)) ?_
    rintro _ h8 ⟨a9, c9, rfl, k2⟩
    have k := k.add1 k2
    refine ⟨_, _, _, _, rfl, k.vall (by rfl) (by rfl) fun h10 k => ⟨_, _, _, k.rd (by rfl), _, k.rd (by rfl), _, k.rd (by rfl), _, _, _, k.rd (by rfl), _, k.rd (by rfl), ⟨a9, c9, none, 0, ⟨encF m.o.e, 0, 0, [], faultE m.o.e⟩⟩, rfl, (run3 hc).symm, ?_⟩⟩
    exact (St.lenil k).pull1.only2
  have k3 : m.o.k ≠ 3 := by simpa using hc
  clear hc
  refine cond_split (fun hc => ?_) (fun hc => ?_)
  · have hc : m.o.k = 4 := by simpa using hc
    refine ⟨_, _, _, k.rd (by rfl), ?_⟩
    refine CallsH.mono (rdecode_spec hr.raw rfl hr.cap (by omega)) ?_
    rintro _ h43 ⟨a46, c46, rfl, k2⟩
    have k := k.add1 k2
    refine ⟨_, _, _, _, _, _, _, rfl, k.vnew fun b49 h50 k => k.vall (by rfl) (by rfl) fun h51 k => ⟨_, k.rd (by rfl), _, k.rd (by rfl), _, _, _, k.rd (by rfl), k.vnew fun b55 h56 k => ?_⟩⟩
    refine k.vall (by rfl) (by rfl) fun h10 k => ⟨_, _, _, k.rd (by rfl), _, k.rd (by rfl), _, k.rd (by rfl), _, _, _, k.rd (by rfl), _, k.rd (by rfl), ⟨none, 0, some ⟨b55, 0, none⟩, 1, ⟨[], 0, (decB m.o.raw).2.1, [(decB m.o.raw).1], (decB m.o.raw).2.2⟩⟩, rfl, (run4 hc).symm, ?_⟩
    have k := (k.sel 5 [0, 2, 1, 3, 4] rfl (by decide) (L' := [A.blk b55 (seV ⟨a46, c46, (decB m.o.raw).1⟩).toArray 27, VSe ⟨a46, c46, (decB m.o.raw).1⟩, _, _, _]) (by rfl)).only2
    exact nilB (LE.single k)
  have k4 : m.o.k ≠ 4 := by simpa using hc
  clear hc
  refine cond_split (fun hc => ?_) (fun hc => ?_)
  · have hc : m.o.k = 5 := by simpa using hc
    refine ⟨_, _, _, k.rd (by rfl), ?_⟩
    refine CallsH.mono (rpack_spec hr.es (fun e he => by have := (ok.es e he).2.1; omega)) ?_
    rintro _ h8 ⟨a9, c9, rfl, k2⟩
    have k := k.add1 k2
    refine ⟨_, _, _, _, rfl, k.vall (by rfl) (by rfl) fun h10 k => ⟨_, _, _, k.rd (by rfl), _, k.rd (by rfl), _, k.rd (by rfl), _, _, _, k.rd (by rfl), _, k.rd (by rfl), ⟨a9, c9, none, 0, ⟨(packR m.o.es).1, 0, 0, [], (packR m.o.es).2⟩⟩, rfl, (run5 hc).symm, ?_⟩⟩
    exact (St.lenil k).pull1.only2
  have k5 : m.o.k ≠ 5 := by simpa using hc
  clear hc
  refine cond_split (fun hc => ?_) (fun hc => ?_)
  · have hc : m.o.k = 6 := by simpa using hc
    refine ⟨_, _, _, k.rd (by rfl), ?_⟩
    refine CallsH.mono (runpack_spec hr.raw rfl hr.cap) ?_
    rintro _ h8 ⟨a9, c9, rfl, k2⟩
    have k := k.add1 k2
    refine ⟨_, _, _, _, rfl, k.vall (by rfl) (by rfl) fun h10 k => ⟨_, _, _, k.rd (by rfl), _, k.rd (by rfl), _, k.rd (by rfl), _, _, _, k.rd (by rfl), _, k.rd (by rfl), ⟨none, 0, a9, c9, ⟨[], 0, 0, (unpackR m.o.raw).1, (unpackR m.o.raw).2⟩⟩, rfl, (run6 hc).symm, ?_⟩⟩
    exact (nilB k).only2
  have k6 : m.o.k ≠ 6 := by simpa using hc
  refine k.vall (by rfl) (by rfl) fun h10 k => ⟨_, _, _, k.rd (by rfl), _, k.rd (by rfl), _, k.rd (by rfl), _, _, _, k.rd (by rfl), _, k.rd (by rfl), ⟨none, 0, none, 0, ⟨[], 0, 0, [], 0⟩⟩, rfl, (run0 k1 k2 k3 k4 k5 k6).symm, ?_⟩
  exact (nilB (St.lenil k)).only2
end Go.Proofs.YtofaihacmoacjaaDoor.F
