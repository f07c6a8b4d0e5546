/- The laws of the wire: answers that are kept; calls amid what is held. Conditions: none. -/
import Derived.Test.YtofaihacmoacjaaDoorXP
import Derived.Test.YtofaihacmoacjaaDoorWO
/-! ## The laws of the wire: answers that are kept, and what they said. -/
namespace Go.Proofs.YtofaihacmoacjaaDoor.F
open Go Go.VC Go.Proofs
set_option linter.unusedSimpArgs false
set_option linter.unusedVariables false
set_option maxRecDepth 100000
attribute [local irreducible] CallsH RunsTo PureTo

variable {S F G : Nat → Prop} {h0 h h1 : Heap} {L R L' : List A} {a b0 la wa : Option Addr} {l c l2 c2 p b cl cw q : Nat} {bs cs : List UInt8} {es : List Ev}
structure Ls where
  a : Option Addr
  l : Nat
  c : Nat
  es : List Ev
def lsV (s : Ls) : Value := .slice s.a s.l s.c
abbrev BSg (x : Sg) : A := BV x.a x.l x.c x.bs
abbrev LSs (x : Ls) : A := LE x.a x.l x.c x.es
structure Kp where
  xa : Option Addr
  xc : Nat
  wa : Option Addr
  wc : Nat
  ea : Option Addr
  ec : Nat
  fa : Option Addr
  fc : Nat
  xs : List Sg
  ws : List Sg
  es : List Ls
  fs : List Ls
  n : Int
abbrev kpC (m : Kp) : Array Value := #[.slice m.xa m.xs.length m.xc, .slice m.wa m.ws.length m.wc, .slice m.ea m.es.length m.ec, .slice m.fa m.fs.length m.fc, .int .i64 m.n]
abbrev KeptL (p : Nat) (m : Kp) : List A := [A.blk p (kpC m) 109, A.vec 30 1 m.xa m.xs.length m.xc (m.xs.map sgV), A.vec 30 1 m.wa m.ws.length m.wc (m.ws.map sgV), A.vec 22 1 m.ea m.es.length m.ec (m.es.map lsV), A.vec 22 1 m.fa m.fs.length m.fc (m.fs.map lsV), A.all (m.xs.map BSg), A.all (m.ws.map BSg), A.all (m.es.map LSs), A.all (m.fs.map LSs)]
def costE (es : List Ls) : Nat := (es.map fun x => 2 * x.l + 2).sum
structure KpOk (m : Kp) (q : Nat) : Prop where
  bs : m.xs.map Sg.bs = m.ws.map Sg.bs
  es : m.es.map Ls.es = m.fs.map Ls.es
  bl : ∀ x ∈ m.xs, x.bs.length = x.l ∧ x.l ≤ 1099511627776
  el : ∀ x ∈ m.es, x.es.length = x.l ∧ x.l ≤ 137438953472 ∧ ∀ e ∈ x.es, rngE e ∧ e.vs.length ≤ 137438953472
  q : 2 * m.xs.length + costE m.es ≤ q
theorem costE_len : ∀ es : List Ls, 2 * es.length ≤ costE es
  | [] => Nat.le_refl _
  | x :: es => by
    have := costE_len es
    unfold costE at this ⊢
    rw [List.map_cons, List.sum_cons, List.length_cons]
    omega
theorem costE_add (es : List Ls) (x : Ls) : costE (es ++ [x]) = costE es + (2 * x.l + 2) := by
  unfold costE
  rw [List.map_append, List.sum_append]; simp
theorem KpOk.n {m : Kp} (k : KpOk m q) (n : Int) {q2 : Nat} (h : q ≤ q2) : KpOk { m with n := n } q2 := ⟨k.bs, k.es, k.bl, k.el, Nat.le_trans k.q h⟩
theorem St.allEnd {α : Type} {f : α → A} {x : α} {xs : List α} (k : St S h0 h (f x :: A.all (xs.map f) :: R)) : St S h0 h (A.all ((xs ++ [x]).map f) :: R) :=
  k.allIn.allPerm (by rw [List.map_append]; exact (List.perm_append_singleton _ _).symm)
theorem kbytes_spec {m : Kp} (ok : KpOk m q) (k : Holds (KeptL p m ++ [BV a l c bs]) F h) (hl : l ≤ 1099511627776) (hb : q + 2 ≤ 4398046511104) :
    CallsH Tryd.prog 67 #[.pointer (some ⟨p, 0, none⟩), .slice a l c] h (fun v h' => v = .tuple #[] ∧ ∃ m', KpOk m' (q + 2) ∧ St F h h' (KeptL p m')) := by
  refine vf67 _ _ _ _ h _ ?_
  unfold F67
  replace k : St F h h (BV a l c bs :: KeptL p m) := St.pull9 (St.start k)
  have hbl : bs.length = l := by have := (k.vec (a := a)).1.len; rw [bytesV_len] at this; omega
  have hq := ok.q
  have hwl : m.ws.length = m.xs.length := by have := congrArg List.length ok.bs; rw [List.length_map, List.length_map] at this; exact this.symm
  subst hbl
  refine VSome.mk ⟨_, k.rd (by rfl), VSome.mk (k.vst (by simp) fun h4 k => VSome.mk ⟨_, k.rd (by rfl), cond_split (fun _ => ?_) (fun _ => ?_)⟩)⟩
  · refine VSome.mk ⟨_, _, _, k.rd (by rfl), k.vnew fun b9 h10 k => ?_⟩
    have hs : Sl h10 (some ⟨b9, 0, none⟩) [.slice a bs.length c] := k.slB (b := b9)
    refine k.pull3.app T23 und23 (by simp) (Src.slice hs rfl) (by simp [oneC]) (by omega) fun a13 c13 h12 k => ⟨_, _, _, rfl, VSome.mk (k.vst (by simp) fun h15 k => VSome.mk ⟨_, _, _, k.rd (by rfl), ?_⟩)⟩
    refine copy_bytes k (k.sl (a := a)) (by omega) fun a18 c18 h19 k => ⟨_, _, _, rfl, k.rd (by rfl), k.vnew fun b21 h22 k => ⟨k.rd (by rfl), ?_⟩⟩
    have hs2 : Sl h22 (some ⟨b21, 0, none⟩) [.slice a18 bs.length c18] := k.slB (b := b21)
    refine k.pull6.app T23 und23 (by simp) (Src.slice hs2 rfl) (by simp [oneC]) (by omega) fun a25 c25 h24 k => ⟨_, _, _, rfl, VSome.mk (k.vst (by simp) fun h27 k => ⟨rfl, ?_⟩)⟩
    have k := k.pull1.drop.pull3.drop.pull8.pull2
    have k := St.allEnd (f := BSg) (x := ⟨a18, bs.length, c18, bs⟩) k
    have k := St.allEnd (f := BSg) (x := ⟨a, bs.length, c, bs⟩) k.pull7.pull4
    have e1 : ∀ (xs : List Sg) (y : Sg), (xs ++ [y]).length = xs.length + 1 := fun xs y => by simp
    have e2 : ∀ (xs : List Sg) (y : Sg), (xs ++ [y]).map sgV = xs.map sgV ++ [.slice y.a y.l y.c] := fun xs y => by rw [List.map_append]; rfl
    refine ⟨{ m with xa := a13, xc := c13, xs := m.xs ++ [⟨a, bs.length, c, bs⟩], wa := a25, wc := c25, ws := m.ws ++ [⟨a18, bs.length, c18, bs⟩], n := IntKind.i64.wrap (IntKind.i64.wrap (m.n + 800) + IntKind.i64.wrap (2 * (bs.length : Int))) }, ⟨?_, ok.es, ?_, ok.el, ?_⟩, ?_⟩
    · show (m.xs ++ _).map Sg.bs = (m.ws ++ _).map Sg.bs
      rw [List.map_append, List.map_append, ok.bs]; rfl
    · intro x hx
      rcases List.mem_append.1 hx with h1 | h1
      · exact ok.bl x h1
      · rw [List.mem_singleton.1 h1]; exact ⟨rfl, hl⟩
    · show 2 * (m.xs ++ [(⟨a, bs.length, c, bs⟩ : Sg)]).length + costE m.es ≤ q + 2
      rw [e1]; omega
    · simp only [KeptL, kpC, e1, e2]
      exact k.sel 9 [4, 3, 2, 5, 6, 0, 1, 7, 8] rfl (by decide) (by rfl)
  · exact ⟨rfl, { m with n := IntKind.i64.wrap (IntKind.i64.wrap (m.n + 800) + IntKind.i64.wrap (2 * (bs.length : Int))) }, ok.n _ (by omega), k.drop⟩
theorem kevents_spec {m : Kp} (ok : KpOk m q) (k : Holds (KeptL p m ++ [LE a l c es]) F h) (hl : l ≤ 137438953472) (hv : ∀ e ∈ es, rngE e ∧ e.vs.length ≤ 137438953472) (hb : q + 2 * l + 2 ≤ 4398046511104) :
    CallsH Tryd.prog 68 #[.pointer (some ⟨p, 0, none⟩), .slice a l c] h (fun v h' => v = .tuple #[] ∧ ∃ m', KpOk m' (q + 2 * l + 2) ∧ St F h h' (KeptL p m')) := by
  refine vf68 _ _ _ _ h _ ?_
  unfold F68
  replace k : St F h h (LE a l c es :: KeptL p m) := St.pull9 (St.start k)
  have hle := (LE.len k).1
  have hq := ok.q
  have hel := costE_len m.es
  have hfl : m.fs.length = m.es.length := by have := congrArg List.length ok.es; rw [List.length_map, List.length_map] at this; exact this.symm
  obtain ⟨xs, he, w⟩ := LE.open k
  clear k
  have k := w
  clear w
  have hxl : xs.length = l := by rw [← hle, ← he, List.length_map]
  refine VSome.mk ⟨_, k.rd (by rfl), VSome.mk (k.vst (by simp) fun h4 k => ?_)⟩
  refine ⟨fun n hh i => ∃ (j : Nat) (n' : Int), i = j ∧ j ≤ l ∧ n = l - j ∧ St F h hh (A.vec 27 3 a l c (xs.flatMap seV) :: A.all (xs.map VSe) :: KeptL p { m with n := n' }), ⟨_, 0, IntKind.i64.wrap (m.n + 800), rfl, by omega, rfl, k⟩, ?_⟩
  clear k
  rintro n h7 _ i ⟨j, n', rfl, hj, rfl, k⟩
  refine cond_split (fun hc => ?_) (fun hc => ?_)
  · have hjl : j < l := Int.ofNat_lt.1 (of_decide_eq_true hc)
    refine VSome.mk ⟨_, k.rd (by rfl), ?_⟩
    refine Sl.row (f := seV) seV_len (k.sl (a := a)) (by omega) hxl (by omega) (by omega) fun ad y hy2 hcy => ?_
    have d2 : cellH h7 ⟨ad.block, ad.off + 2, none⟩ = some (.slice y.a y.e.vs.length y.c) := hcy 2 _ rfl
    refine ⟨_, _, _, d2, VSome.mk (k.vst (by simp) fun h16 k => ?_)⟩
    exact ⟨l - (j + 1), by omega, j + 1, IntKind.i64.wrap (IntKind.i64.wrap (n' + 1000) + IntKind.i64.wrap (90 * (y.e.vs.length : Int))), wrap_nat hjl (by omega), hjl, rfl, k⟩
  · clear hc hj
    have k := LE.close he k
    refine VSome.mk ⟨_, k.rd (by rfl), cond_split (fun _ => ?_) (fun _ => ?_)⟩
    · refine VSome.mk ⟨_, _, _, k.rd (by rfl), k.vnew fun b21 h22 k => ?_⟩
      have hs : Sl h22 (some ⟨b21, 0, none⟩) [.slice a l c] := k.slB (b := b21)
      refine k.pull5.app T48 und48 (by simp) (Src.slice hs rfl) (by simp [oneC]) (by show (m.es.length + 1) * 24 ≤ _; omega) fun a25 c25 h24 k => ⟨_, _, _, rfl, VSome.mk (k.vst (by simp) fun h27 k => VSome.mk ⟨_, _, _, k.rd (by rfl), ?_⟩)⟩
      refine CallsH.mono (copied_spec (LE.ro k.pull2 fun e h => (hv e h).1) hl fun e h => (hv e h).2) ?_
      rintro _ h31 ⟨a32, c32, rfl, k31⟩
      have k := k.add1 k31
      refine ⟨_, _, _, rfl, k.rd (by rfl), k.vnew fun b33 h34 k => ⟨k.rd (by rfl), ?_⟩⟩
      have hs2 : Sl h34 (some ⟨b33, 0, none⟩) [.slice a32 l c32] := k.slB (b := b33)
      refine k.pull8.app T48 und48 (by simp) (Src.slice hs2 rfl) (by simp [oneC]) (by show (m.fs.length + 1) * 24 ≤ _; omega) fun a37 c37 h36 k => ⟨_, _, _, rfl, VSome.mk (k.vst (by simp) fun h39 k => ⟨rfl, ?_⟩)⟩
      have k := k.pull1.drop.pull3.drop.pull10.pull2
      have k := St.allEnd (f := LSs) (x := ⟨a32, l, c32, es⟩) k
      have k := St.allEnd (f := LSs) (x := ⟨a, l, c, es⟩) k.pull9.pull4
      have e1 : ∀ (xs : List Ls) (y : Ls), (xs ++ [y]).length = xs.length + 1 := fun xs y => by simp
      have e2 : ∀ (xs : List Ls) (y : Ls), (xs ++ [y]).map lsV = xs.map lsV ++ [.slice y.a y.l y.c] := fun xs y => by rw [List.map_append]; rfl
      refine ⟨{ m with ea := a25, ec := c25, es := m.es ++ [⟨a, l, c, es⟩], fa := a37, fc := c37, fs := m.fs ++ [⟨a32, l, c32, es⟩], n := n' }, ⟨ok.bs, ?_, ok.bl, ?_, ?_⟩, ?_⟩
      · show (m.es ++ _).map Ls.es = (m.fs ++ _).map Ls.es
        rw [List.map_append, List.map_append, ok.es]; rfl
      · intro x hx
        rcases List.mem_append.1 hx with h1 | h1
        · exact ok.el x h1
        · rw [List.mem_singleton.1 h1]; exact ⟨hle, hl, hv⟩
      · show 2 * m.xs.length + costE (m.es ++ [(⟨a, l, c, es⟩ : Ls)]) ≤ q + 2 * l + 2
        rw [costE_add]
        show 2 * m.xs.length + (costE m.es + (2 * l + 2)) ≤ _
        omega
      · simp only [KeptL, kpC, e1, e2]
        exact k.sel 9 [4, 5, 6, 3, 2, 7, 8, 0, 1] rfl (by decide) (by rfl)
    · exact ⟨rfl, { m with n := n' }, ok.n _ (by omega), k.drop⟩
end Go.Proofs.YtofaihacmoacjaaDoor.F
/-! ## The laws of the wire: kept answers end. -/
namespace Go.Proofs.YtofaihacmoacjaaDoor.F
open Go Go.VC Go.Proofs
set_option linter.unusedSimpArgs false
set_option linter.unusedVariables false
set_option maxRecDepth 100000
attribute [local irreducible] CallsH RunsTo PureTo

variable {S F G : Nat → Prop} {h0 h h1 : Heap} {L R L' : List A} {a b0 la wa : Option Addr} {l c l2 c2 p b cl cw q : Nat} {bs cs : List UInt8} {es : List Ev}
theorem all_slB {xs : List Sg} {x : Sg} (k : St S h0 h (A.all (xs.map BSg) :: R)) (hx : x ∈ xs) : Sl h x.a (bytesV x.bs) := by
  obtain ⟨F, hh, hf⟩ := k.own
  obtain ⟨F1, F2, k1, _⟩ := hh
  obtain ⟨F', k', _⟩ := Holds.get (show Holds (xs.map BSg) F1 h from k1) (List.mem_map_of_mem hx)
  exact k'.1.sl
theorem all_lenB {xs : List Sg} {x : Sg} (k : St S h0 h (A.all (xs.map BSg) :: R)) (hx : x ∈ xs) : x.bs.length = x.l := by
  obtain ⟨F, hh, hf⟩ := k.own
  obtain ⟨F1, F2, k1, _⟩ := hh
  obtain ⟨F', k', _⟩ := Holds.get (show Holds (xs.map BSg) F1 h from k1) (List.mem_map_of_mem hx)
  have := k'.1.len
  rw [bytesV_len] at this; omega
theorem all_roE {xs : List Ls} {x : Ls} (k : St S h0 h (A.all (xs.map LSs) :: R)) (hx : x ∈ xs) (hr : ∀ e ∈ x.es, rngE e) : RoE none_ h x.a x.l x.es := by
  obtain ⟨s1, s2, rfl⟩ := List.append_of_mem hx
  have k : St S h0 h (LSs x :: A.all ((s1 ++ s2).map LSs) :: R) := (St.allPerm k (L' := (x :: (s1 ++ s2)).map LSs) (List.perm_middle.map _)).allOut
  exact LE.ro k hr
theorem ends_spec {m : Kp} (ok : KpOk m q) (k : Holds (KeptL p m) F h) (hb : q ≤ 4398046511104) :
    CallsH Tryd.prog 69 #[.pointer (some ⟨p, 0, none⟩)] h (fun v h' => v = .bool true ∧ St F h h' []) := by
  refine vf69 _ h _ ?_
  unfold F69
  replace k : St F h h (KeptL p m) := St.start k
  have hq := ok.q
  have hel := costE_len m.es
  have hwl : m.ws.length = m.xs.length := by have := congrArg List.length ok.bs; rw [List.length_map, List.length_map] at this; exact this.symm
  have hfl : m.fs.length = m.es.length := by have := congrArg List.length ok.es; rw [List.length_map, List.length_map] at this; exact this.symm
  refine ⟨fun n hh _ i => ∃ j : Nat, i = j ∧ j ≤ m.xs.length ∧ n = m.xs.length - j ∧ St F h hh (KeptL p m), ⟨_, 0, rfl, by omega, rfl, k⟩, ?_⟩
  clear k
  rintro n h3 _ _ i ⟨j, rfl, hj, rfl, k⟩
  refine VSome.mk ⟨_, _, _, k.rd (by rfl), cond_split (fun hc => ?_) (fun _ => ?_)⟩
  · have hjl : j < m.xs.length := Int.ofNat_lt.1 (of_decide_eq_true hc)
    refine VSome.mk ⟨_, _, _, k.rd (by rfl), Sl.one (k.sl (a := m.xa)) rfl (by omega) (by omega) fun ad x hx hc1 => ⟨_, _, _, hc1, VSome.mk ⟨_, _, _, k.rd (by rfl), Sl.one (k.sl (a := m.wa)) rfl (by omega) (by omega) fun ad2 w hw hc2 => ⟨_, _, _, hc2, ?_⟩⟩⟩⟩
    rw [Int.toNat_natCast] at hx hw
    have hxm := List.mem_of_getElem? hx
    have hwm := List.mem_of_getElem? hw
    have e : x.bs = w.bs := by
      have := congrArg (fun l => l[j]?) ok.bs
      simp only [List.getElem?_map, hx, hw, Option.map_some, Option.some.injEq] at this
      exact this
    have sx := all_slB k.drop.drop.drop.drop.drop hxm
    have sw := all_slB k.drop.drop.drop.drop.drop.drop hwm
    have lx := all_lenB k.drop.drop.drop.drop.drop hxm
    have lw := all_lenB k.drop.drop.drop.drop.drop.drop hwm
    have hbl := (ok.bl x hxm).2
    refine CallsH.mono (same_spec sx lx sw lw (by omega)) ?_
    rintro _ _ ⟨rfl, rfl⟩
    rw [e]
    exact ⟨_, rfl, cond_false (by simp) ⟨m.xs.length - (j + 1), by omega, j + 1, wrap_nat hjl (by omega), hjl, rfl, k⟩⟩
  clear hj
  refine ⟨fun n hh _ i => ∃ j : Nat, i = j ∧ j ≤ m.es.length ∧ n = m.es.length - j ∧ St F h hh (KeptL p m), ⟨_, 0, rfl, by omega, rfl, k⟩, ?_⟩
  clear k
  rintro n h3 _ _ i ⟨j, rfl, hj, rfl, k⟩
  refine VSome.mk ⟨_, _, _, k.rd (by rfl), cond_split (fun hc => ?_) (fun _ => ?_)⟩
  · have hjl : j < m.es.length := Int.ofNat_lt.1 (of_decide_eq_true hc)
    refine VSome.mk ⟨_, _, _, k.rd (by rfl), Sl.one (k.sl (a := m.ea)) rfl (by omega) (by omega) fun ad x hx hc1 => ⟨_, _, _, hc1, VSome.mk ⟨_, _, _, k.rd (by rfl), Sl.one (k.sl (a := m.fa)) rfl (by omega) (by omega) fun ad2 w hw hc2 => ⟨_, _, _, hc2, ?_⟩⟩⟩⟩
    rw [Int.toNat_natCast] at hx hw
    have hxm := List.mem_of_getElem? hx
    have hwm := List.mem_of_getElem? hw
    have e : x.es = w.es := by
      have := congrArg (fun l => l[j]?) ok.es
      simp only [List.getElem?_map, hx, hw, Option.map_some, Option.some.injEq] at this
      exact this
    obtain ⟨l1, l2, l3⟩ := ok.el x hxm
    have rx := all_roE k.drop.drop.drop.drop.drop.drop.drop hxm fun e he => (l3 e he).1
    have rw_ := all_roE k.drop.drop.drop.drop.drop.drop.drop.drop hwm fun e' he => (l3 e' (by rw [e]; exact he)).1
    refine CallsH.mono (lists_spec rx rw_ (by omega) fun e he => by have := (l3 e he).2; omega) ?_
    rintro _ h39 ⟨rfl, m39⟩
    rw [e]
    exact ⟨_, rfl, cond_false (by simp) ⟨m.es.length - (j + 1), by omega, j + 1, wrap_nat hjl (by omega), hjl, rfl, k.next m39⟩⟩
  clear hj
  refine k.vnew fun b41 h42 k => ?_
  -- [B, P, X, W, E, F, aX, aW, aE, aF]
  have k := k.pull9.drop.pull7.drop.pull5.drop.pull3.drop
  -- [B, P, X, E, aX, aE]
  have k : St F h h42 (A.vec 30 1 none 0 0 [] :: A.vec 25 1 none 0 0 [] :: A.vec 22 1 none 0 0 [] :: A.all [] :: A.all [] :: A.all [] :: A.blk b41 (bkC ⟨⟨none, 0, [], []⟩, ⟨none, 0, [], []⟩, ⟨none, 0, [], []⟩, 0, 0, 0, 0⟩) 63 :: A.blk p (kpC m) 109 :: A.vec 30 1 m.xa m.xs.length m.xc (m.xs.map sgV) :: A.vec 22 1 m.ea m.es.length m.ec (m.es.map lsV) :: A.all (m.xs.map BSg) :: A.all (m.es.map LSs) :: []) :=
    St.vnil (St.vnil (St.vnil (St.all0 (St.all0 (St.all0 k))) 22 (by omega)) 25 (by omega)) 30 (by omega)
  have k : St F h h42 (A.blk p (kpC m) 109 :: A.vec 30 1 m.xa m.xs.length m.xc (m.xs.map sgV) :: A.vec 22 1 m.ea m.es.length m.ec (m.es.map lsV) :: A.all ((m.xs.drop 0).map BSg) :: A.all (m.es.map LSs) :: BookL b41 ⟨⟨none, 0, [], []⟩, ⟨none, 0, [], []⟩, ⟨none, 0, [], []⟩, 0, 0, 0, 0⟩) :=
    k.sel 12 [7, 8, 9, 10, 11, 6, 0, 1, 2, 3, 4, 5] rfl (by decide) (by rfl)
  refine ⟨fun n hh i => ∃ (j : Nat) (b : Bk), i = j ∧ j ≤ m.xs.length ∧ n = m.xs.length - j ∧ BkOk b ∧ BkL b (2 * j) ∧ St F h hh (A.blk p (kpC m) 109 :: A.vec 30 1 m.xa m.xs.length m.xc (m.xs.map sgV) :: A.vec 22 1 m.ea m.es.length m.ec (m.es.map lsV) :: A.all ((m.xs.drop j).map BSg) :: A.all (m.es.map LSs) :: BookL b41 b), ⟨_, 0, _, rfl, by omega, rfl, ⟨CmOk.nil, CmOk.nil, CmOk.nil, ⟨rfl, Nat.le_refl _⟩, ⟨rfl, Nat.le_refl _⟩, ⟨rfl, Nat.le_refl _⟩⟩, ⟨Nat.le_refl _, Nat.le_refl _, Nat.le_refl _⟩, k⟩, ?_⟩
  clear k
  rintro n h45 _ i ⟨j, b, rfl, hj, rfl, bok, bl, k⟩
  refine VSome.mk ⟨_, _, _, k.rd (by rfl), cond_split (fun hc => ?_) (fun hc => ?_)⟩
  · have hjl : j < m.xs.length := Int.ofNat_lt.1 (of_decide_eq_true hc)
    refine VSome.mk ⟨_, _, _, k.rd (by rfl), Sl.one (k.sl (a := m.xa)) rfl (by omega) (by omega) fun ad x hx hc1 => ⟨_, _, _, hc1, ?_⟩⟩
    rw [Int.toNat_natCast] at hx
    have hxm := List.mem_of_getElem? hx
    have hdrop : (m.xs.drop j).map BSg = BSg x :: (m.xs.drop (j + 1)).map BSg := by
      obtain ⟨h1, h2⟩ := List.getElem?_eq_some_iff.1 hx
      rw [List.drop_eq_getElem_cons h1, h2]; rfl
    rw [hdrop] at k
    have k := k.pull3.allOut
    have k : St F h h45 ((BookL b41 b ++ [BSg x]) ++ [A.blk p (kpC m) 109, A.vec 30 1 m.xa m.xs.length m.xc (m.xs.map sgV), A.vec 22 1 m.ea m.es.length m.ec (m.es.map lsV), A.all ((m.xs.drop (j + 1)).map BSg), A.all (m.es.map LSs)]) := k.sel 13 [6, 7, 8, 9, 10, 11, 12, 0, 2, 3, 4, 1, 5] rfl (by decide) (by rfl)
    obtain ⟨F1, G1, kF, _, _, _, back⟩ := k.frame
    refine CallsH.mono (fillBytes_spec bok kF (ok.bl x hxm).2 bl (by omega)) ?_
    rintro _ h56 ⟨rfl, b', bok', bl', k'⟩
    have k := back k'
    refine ⟨rfl, m.xs.length - (j + 1), by omega, j + 1, b', wrap_nat hjl (by omega), hjl, rfl, bok', bl'.up (by omega), ?_⟩
    exact k.sel 12 [7, 8, 9, 10, 11, 0, 1, 2, 3, 4, 5, 6] rfl (by decide) (by rfl)
  have hjl : j = m.xs.length := by
    have : ¬ (j : Int) < m.xs.length := of_decide_eq_false hc
    omega
  subst hjl
  clear hc hj
  have k := k.pull3.drop
  have k : St F h h45 (A.blk p (kpC m) 109 :: A.vec 22 1 m.ea m.es.length m.ec (m.es.map lsV) :: A.all ((m.es.drop 0).map LSs) :: BookL b41 b) := k.pull1.drop
  refine ⟨fun n hh i => ∃ (j : Nat) (b : Bk), i = j ∧ j ≤ m.es.length ∧ n = m.es.length - j ∧ BkOk b ∧ BkL b (2 * m.xs.length + costE (m.es.take j)) ∧ St F h hh (A.blk p (kpC m) 109 :: A.vec 22 1 m.ea m.es.length m.ec (m.es.map lsV) :: A.all ((m.es.drop j).map LSs) :: BookL b41 b), ⟨_, 0, _, rfl, by omega, rfl, bok, bl.up (Nat.le_add_right _ _), k⟩, ?_⟩
  clear k bok bl
  rintro n h59 _ i ⟨j, b, rfl, hj, rfl, bok, bl, k⟩
  have hct : ∀ j, costE (m.es.take j) ≤ costE m.es := fun j => by
    have e := List.take_append_drop j m.es
    have : costE (m.es.take j ++ m.es.drop j) = costE (m.es.take j) + costE (m.es.drop j) := by unfold costE; rw [List.map_append, List.sum_append]
    rw [e] at this; omega
  refine VSome.mk ⟨_, _, _, k.rd (by rfl), cond_split (fun hc => ?_) (fun hc => ?_)⟩
  · have hjl : j < m.es.length := Int.ofNat_lt.1 (of_decide_eq_true hc)
    refine VSome.mk ⟨_, _, _, k.rd (by rfl), Sl.one (k.sl (a := m.ea)) rfl (by omega) (by omega) fun ad x hx hc1 => ⟨_, _, _, hc1, ?_⟩⟩
    rw [Int.toNat_natCast] at hx
    have hxm := List.mem_of_getElem? hx
    have hdrop : (m.es.drop j).map LSs = LSs x :: (m.es.drop (j + 1)).map LSs := by
      obtain ⟨h1, h2⟩ := List.getElem?_eq_some_iff.1 hx
      rw [List.drop_eq_getElem_cons h1, h2]; rfl
    have hcn : costE (m.es.take (j + 1)) = costE (m.es.take j) + (2 * x.l + 2) := by rw [take_next hx, costE_add]
    have hct1 := hct (j + 1)
    obtain ⟨l1, l2, l3⟩ := ok.el x hxm
    rw [hdrop] at k
    have k := k.pull2.allOut
    have k : St F h h59 ((BookL b41 b ++ [LSs x]) ++ [A.blk p (kpC m) 109, A.vec 22 1 m.ea m.es.length m.ec (m.es.map lsV), A.all ((m.es.drop (j + 1)).map LSs)]) := k.sel 11 [4, 5, 6, 7, 8, 9, 10, 0, 2, 3, 1] rfl (by decide) (by rfl)
    obtain ⟨F1, G1, kF, _, _, _, back⟩ := k.frame
    refine CallsH.mono (fillEvents_spec bok kF (by omega) (fun e he => by have := (l3 e he).2; omega) bl (by omega)) ?_
    rintro _ h56 ⟨rfl, b', bok', bl', k'⟩
    have k := back k'
    refine ⟨rfl, m.es.length - (j + 1), by omega, j + 1, b', wrap_nat hjl (by omega), hjl, rfl, bok', bl'.up (by omega), ?_⟩
    exact k.sel 10 [7, 8, 9, 0, 1, 2, 3, 4, 5, 6] rfl (by decide) (by rfl)
  have hct1 := hct j
  have k : St F h h59 (BookL b41 b) := k.drop.drop.drop
  obtain ⟨F2, kF, hf2⟩ := k.own
  refine CallsH.mono (grow_spec bok kF bl (by omega)) ?_
  rintro _ h72 ⟨rfl, b', bok', bl', k'⟩
  have k2 := St.after (k1 := kF) k hf2 k'
  refine ⟨rfl, CallsH.mono (whole_spec (bok'.r (R := []) k2 bl' (by omega))) ?_⟩
  rintro _ h74 ⟨rfl, m74⟩
  have k3 := k2.next m74
  exact ⟨_, rfl, rfl, k3.drop.drop.drop.drop.drop.drop.drop⟩
end Go.Proofs.YtofaihacmoacjaaDoor.F
/-! ## The laws of the wire: what is handed in, held; calls amid what is held. -/
namespace Go.Proofs.YtofaihacmoacjaaDoor.F
open Go Go.VC Go.Proofs
set_option linter.unusedSimpArgs false
set_option linter.unusedVariables false
set_option maxRecDepth 100000
attribute [local irreducible] CallsH RunsTo PureTo

variable {S F G : Nat → Prop} {h0 h h1 : Heap} {L R L' : List A} {a b0 la wa ia ra : Option Addr} {l c l2 c2 p b cl cw q rc : Nat} {bs cs : List UInt8} {es : List Ev}
theorem encEs_ge : ∀ es : List Ev, es.length ≤ (es.flatMap encE).length
  | [] => Nat.zero_le _
  | e :: es => by
    have ih := encEs_ge es
    have h1 : 1 ≤ (encE e).length := by
      unfold encE
      have := (putN_len e.tm).1
      simp only [List.length_append]; omega
    rw [List.flatMap_cons, List.length_append, List.length_cons]; omega
theorem unpack_le (b : Bytes) : (unpackR b).1.length ≤ b.length := by
  unfold unpackR
  split
  · exact Nat.zero_le _
  split
  · exact Nat.zero_le _
  split
  · exact Nat.zero_le _
  split
  · rename_i es n hn
    split
    · exact Nat.zero_le _
    · have h1 := (Form.bat.pg _ _ _ hn).2.2
      have h2 := congrArg List.length h1
      unfold bodyB at h2
      rw [List.length_append, List.length_take, List.length_take] at h2
      have := encEs_ge es
      show es.length ≤ _
      omega
  · exact Nat.zero_le _
/-- Events with room behind their values and behind them, held. -/
abbrev GivL (ia ra : Option Addr) (l rc : Nat) (xs : List Se) : List A := [A.vec 27 3 ia (l + 34) (l + 34) ((xs ++ tailSe 34).flatMap seV), A.vec 25 1 ra l rc (xs.map rmV), A.all (xs.map VRm)]
theorem GivL.given {xs : List Se} (k : St S h0 h (GivL ia ra l rc xs ++ R)) (hx : xs.map Se.e = es) (hr : ∀ x ∈ xs, rngE x.e) : Given h ia ra es := by
  have k : St S h0 h (A.vec 27 3 ia (l + 34) (l + 34) ((xs ++ tailSe 34).flatMap seV) :: A.vec 25 1 ra l rc (xs.map rmV) :: A.all (xs.map VRm) :: R) := k
  exact ⟨xs, hx, k.sl (a := ia), k.drop.sl (a := ra), fun x hx => ⟨all_room k.drop.drop hx, hr x hx⟩⟩
theorem given_own (he : RoE none_ h a l es) (hb : l ≤ 137438953472) (hb2 : ∀ e ∈ es, e.vs.length ≤ 137438953472) : CallsH Tryd.prog 27 #[.slice a l c] h
    (fun v h' => ∃ (ia ra : Option Addr) (rc : Nat) (xs : List Se), v = .tuple #[.slice ia (l + 34) (l + 34), .slice ra l rc] ∧ xs.map Se.e = es ∧ (∀ x ∈ xs, rngE x.e) ∧ St none_ h h' (GivL ia ra l rc xs)) := by
  refine vf27 _ _ _ h _ ?_
  unfold F27
  have hl : es.length = l := by obtain ⟨_, _, _, _, e⟩ := he; exact e
  have hre : ∀ x ∈ es, rngE x := by
    obtain ⟨xs, q1, q2, q3, q4⟩ := he
    intro x hx
    rw [← q3] at hx
    obtain ⟨y, hy, rfl⟩ := List.mem_map.1 hx
    exact (q2 y hy).rng
  have ew : IntKind.i64.wrap ((l : Int) + 34) = ((l + 34 : Nat) : Int) := by rw [wrap_id (by omega) (by omega)]; omega
  rw [ew]
  refine (St.fresh h).make T22 (n := l + 34) (m := l + 34) rfl rfl (Nat.le_refl _) (by omega) fun a3 h2 k => ⟨_, _, _, rfl, ?_⟩
  rw [made_evs] at k
  refine ⟨fun n hh ra rl rc i => ∃ (j : Nat) (xs : List Se), i = j ∧ j ≤ l + 34 ∧ n = l + 34 - j ∧ rl = xs.length ∧ xs.length = min j l ∧ xs.map Se.e = es.take j ∧ St none_ h hh [A.vec 27 3 a3 (l + 34) (l + 34) ((xs ++ (tailSe (j - l) ++ List.replicate (l + 34 - j) noSe)).flatMap seV), A.vec 25 1 ra xs.length rc (xs.map rmV), A.all (xs.map VRm)],
    ⟨_, 0, [], rfl, by omega, rfl, rfl, by simp, by simp, ?_⟩, ?_⟩
  · have k := ((k.all0).vnil 25 (sz := 1) (by omega))
    have e : List.replicate (l + 34) noSe = [] ++ (tailSe (0 - l) ++ List.replicate (l + 34 - 0) noSe) := by simp [tailSe]
    rw [e] at k
    exact k.sel 3 [2, 0, 1] rfl (by decide) (by rfl)
  clear k
  rintro n hh _ ra _ rc _ ⟨j, xs, rfl, hj, rfl, rfl, hxl, hxe, k⟩
  refine cond_split (fun hc => ?_) (fun hc => ?_)
  rotate_left
  · have hjl : j = l + 34 := by
      have : ¬ (j : Int) < ((l + 34 : Nat) : Int) := of_decide_eq_false hc
      omega
    subst hjl
    have e1 : l + 34 - l = 34 := by omega
    have e2 : xs.length = l := by omega
    rw [e1, Nat.sub_self, List.replicate_zero, List.append_nil] at k
    rw [List.take_of_length_le (by omega)] at hxe
    rw [e2]
    rw [e2] at k
    exact ⟨a3, ra, rc, xs, rfl, hxe, fun x hx => hre _ (by rw [← hxe]; exact List.mem_map_of_mem hx), k⟩
  have hjl : j < l + 34 := Int.ofNat_lt.1 (of_decide_eq_true hc)
  clear hc
  refine ⟨fun h' ra rl rc => ∃ xs : List Se, rl = xs.length ∧ xs.length = min (j + 1) l ∧ xs.map Se.e = es.take (j + 1) ∧ St none_ h h' [A.vec 27 3 a3 (l + 34) (l + 34) ((xs ++ (tailSe (j + 1 - l) ++ List.replicate (l + 34 - (j + 1)) noSe)).flatMap seV), A.vec 25 1 ra xs.length rc (xs.map rmV), A.all (xs.map VRm)], ?_, ?_⟩
  rotate_left
  · rintro h' _ ra' _ rc' ⟨xs', rfl, q1, q2, k⟩
    exact ⟨_, by omega, j + 1, xs', wrap_nat hjl (by omega), hjl, rfl, rfl, q1, q2, k⟩
  have hrep : l + 34 - j = l + 34 - (j + 1) + 1 := by omega
  have hpre : (xs ++ tailSe (j - l)).length = j := by rw [List.length_append, hxl, tailSe_len]; omega
  have hcont : xs ++ (tailSe (j - l) ++ List.replicate (l + 34 - j) noSe) = (xs ++ tailSe (j - l)) ++ noSe :: List.replicate (l + 34 - (j + 1)) noSe := by
    rw [hrep, List.replicate_succ, List.append_assoc]
  rw [hcont] at k
  have hat : ((xs ++ tailSe (j - l)) ++ noSe :: List.replicate (l + 34 - (j + 1)) noSe)[j]? = some noSe := by
    rw [List.getElem?_append_right (by omega), hpre, Nat.sub_self]; rfl
  have hset : ∀ y : Se, ((xs ++ tailSe (j - l)) ++ noSe :: List.replicate (l + 34 - (j + 1)) noSe).set j y = (xs ++ tailSe (j - l)) ++ y :: List.replicate (l + 34 - (j + 1)) noSe := fun y => by
    rw [List.set_append_right _ _ (by omega), hpre, Nat.sub_self]; rfl
  have hlen : ∀ y : Se, ((xs ++ tailSe (j - l)) ++ y :: List.replicate (l + 34 - (j + 1)) noSe).length = l + 34 := fun y => by
    rw [List.length_append, hpre, List.length_cons, List.length_replicate]; omega
  refine k.vix hjl fun g o ha => ?_
  subst ha
  have et : IntKind.i64.wrap (IntKind.i64.wrap (78 + (j : Int)) - (l : Int)) = 78 + (j : Int) - (l : Int) := by rw [wrap_id (n := 78 + (j : Int)) (by omega) (by omega), wrap_id (by omega) (by omega)]
  rw [et]
  refine St.vcell (r := j * 3 + 1) k (by omega) fun h13 k => ?_
  rw [flat_cell (sz := 3) (fun _ => rfl) (by omega) (y := ⟨none, 0, ⟨[], 78 + (j : Int) - (l : Int), []⟩⟩) hat rfl, hset] at k
  refine cond_split (fun hc => ?_) (fun hc => ?_)
  rotate_left
  · have hjn : l ≤ j := by
      have : ¬ (j : Int) < l := of_decide_eq_false hc
      omega
    have em : (⟨none, 0, ⟨[], 78 + (j : Int) - (l : Int), []⟩⟩ : Se) = tailE (j - l) := by
      unfold tailE
      congr 2; omega
    rw [em] at k
    have e2 : (xs ++ tailSe (j - l)) ++ tailE (j - l) :: List.replicate (l + 34 - (j + 1)) noSe = xs ++ (tailSe (j + 1 - l) ++ List.replicate (l + 34 - (j + 1)) noSe) := by
      rw [show j + 1 - l = (j - l) + 1 by omega, ← tailSe_next]
      simp only [List.append_assoc, List.singleton_append]
    rw [e2] at k
    refine ⟨xs, rfl, by omega, ?_, k⟩
    rw [hxe, List.take_of_length_le (by omega), List.take_of_length_le (by omega)]
  have hjn : j < l := Int.ofNat_lt.1 (of_decide_eq_true hc)
  clear hc
  refine he.old k.ext (by omega) (by omega) fun ad x hx c0 c1 c3 kx => ⟨_, c0, _, c1, _, _, _, c3, ?_⟩
  rw [Int.toNat_natCast] at hx
  have hxb := hb2 _ (List.mem_of_getElem? hx)
  refine CallsH.mono (wide_spec (kx.in k) hxb) ?_
  rintro _ h19 ⟨a', rfl, k2⟩
  have k := k.add1 k2
  refine ⟨_, _, _, _, _, _, _, _, rfl, k.vnew fun b24 h25 k => k.vall (by rfl) (by rfl) fun h26 k => ⟨_, k.rd (by rfl), _, k.rd (by rfl), _, _, _, k.rd (by rfl), ?_⟩⟩
  have k := k.pull2
  refine k.vix hjl fun g o ha => ?_
  cases ha
  refine St.vrow (f := seV) (fun _ => rfl) (y := ⟨a', x.e.vs.length + 34, x.e⟩) k (hlen _) hjl (oneC_se _) fun h31 k => ?_
  have hset2 : ∀ y z : Se, ((xs ++ tailSe (j - l)) ++ y :: List.replicate (l + 34 - (j + 1)) noSe).set j z = (xs ++ tailSe (j - l)) ++ z :: List.replicate (l + 34 - (j + 1)) noSe := fun y z => by
    rw [List.set_append_right _ _ (by omega), hpre, Nat.sub_self]; rfl
  rw [hset2] at k
  refine k.vnew fun b32 h33 k => ?_
  have hsl : Sl h33 (some ⟨b32, 0, none⟩) [rmV ⟨a', x.e.vs.length + 34, x.e⟩] := k.slB (b := b32)
  refine k.pull4.app T49 und49 (by simp) (Src.slice hsl rfl) (by simp [rmV, oneC]) (by omega) fun a36 c36 h35 k => ⟨_, _, _, rfl, ?_⟩
  refine ⟨xs ++ [(⟨a', x.e.vs.length + 34, x.e⟩ : Se)], by simp, by simp; omega, ?_, ?_⟩
  · rw [List.map_append, hxe, take_next hx]; rfl
  have k := k.sel 6 [4, 5, 2, 0, 1, 3] rfl (by decide) (L' := [VRm ⟨a', x.e.vs.length + 34, x.e⟩, A.all (xs.map VRm), _, _, _, _]) (by rfl)
  have k := (k.allIn).allPerm (L' := (xs ++ [(⟨a', x.e.vs.length + 34, x.e⟩ : Se)]).map VRm) (by rw [List.map_append]; exact (List.perm_append_singleton _ _).symm)
  have k := (k.sel 5 [1, 2, 0, 3, 4] rfl (by decide) (L' := [_, _, _, _, _]) (by rfl)).only3
  have ej : tailSe (j - l) = [] := by rw [show j - l = 0 by omega]; rfl
  have ej2 : tailSe (j + 1 - l) = [] := by rw [show j + 1 - l = 0 by omega]; rfl
  have e2 : (xs ++ tailSe (j - l)) ++ (⟨a', x.e.vs.length + 34, x.e⟩ : Se) :: List.replicate (l + 34 - (j + 1)) noSe = (xs ++ [(⟨a', x.e.vs.length + 34, x.e⟩ : Se)]) ++ (tailSe (j + 1 - l) ++ List.replicate (l + 34 - (j + 1)) noSe) := by
    rw [ej, ej2]; simp
  rw [e2] at k
  have e3 : xs.map rmV ++ [rmV ⟨a', x.e.vs.length + 34, x.e⟩] = (xs ++ [(⟨a', x.e.vs.length + 34, x.e⟩ : Se)]).map rmV := by rw [List.map_append]; rfl
  rw [e3] at k
  rw [List.length_append]
  exact k
theorem _root_.Go.VC.St.into {x : A} (k : St S h0 h (x :: (L ++ R))) : St S h0 h (L ++ x :: R) := k.perm List.perm_middle.symm
theorem _root_.Go.VC.St.outof {x : A} (k : St S h0 h (L ++ x :: R)) : St S h0 h (x :: (L ++ R)) := k.perm List.perm_middle
theorem _root_.Go.VC.St.callL {x : A} (k : St S h0 h (x :: (L ++ R))) : ∃ F, Holds (L ++ [x]) F h ∧ ∀ {h' : Heap} {L' : List A}, St F h h' L' → St S h0 h' (L' ++ R) := by
  have k : St S h0 h ((L ++ [x]) ++ R) := by
    have := k.into
    rw [List.append_assoc]; exact this
  obtain ⟨F1, G1, kF, _, _, _, back⟩ := k.frame
  exact ⟨F1, kF, back⟩
theorem kbytes_call {m : Kp} (ok : KpOk m q) (k : St S h0 h (BV a l c bs :: (KeptL p m ++ R))) (hl : l ≤ 1099511627776) (hb : q + 2 ≤ 4398046511104) :
    CallsH Tryd.prog 67 #[.pointer (some ⟨p, 0, none⟩), .slice a l c] h (fun v h' => v = .tuple #[] ∧ ∃ m', KpOk m' (q + 2) ∧ St S h0 h' (KeptL p m' ++ R)) := by
  obtain ⟨F1, kF, back⟩ := k.callL
  refine CallsH.mono (kbytes_spec ok kF hl hb) ?_
  rintro _ h' ⟨rfl, m', ok', k'⟩
  exact ⟨rfl, m', ok', back k'⟩
theorem kevents_call {m : Kp} (ok : KpOk m q) (k : St S h0 h (LE a l c es :: (KeptL p m ++ R))) (hl : l ≤ 137438953472) (hv : ∀ e ∈ es, rngE e ∧ e.vs.length ≤ 137438953472) (hb : q + 2 * l + 2 ≤ 4398046511104) :
    CallsH Tryd.prog 68 #[.pointer (some ⟨p, 0, none⟩), .slice a l c] h (fun v h' => v = .tuple #[] ∧ ∃ m', KpOk m' (q + 2 * l + 2) ∧ St S h0 h' (KeptL p m' ++ R)) := by
  obtain ⟨F1, kF, back⟩ := k.callL
  refine CallsH.mono (kevents_spec ok kF hl hv hb) ?_
  rintro _ h' ⟨rfl, m', ok', k'⟩
  exact ⟨rfl, m', ok', back k'⟩
theorem ends_call {m : Kp} (ok : KpOk m q) (k : St S h0 h (KeptL p m ++ R)) (hb : q ≤ 4398046511104) :
    CallsH Tryd.prog 69 #[.pointer (some ⟨p, 0, none⟩)] h (fun v h' => v = .bool true ∧ St S h0 h' R) := by
  obtain ⟨F1, G1, kF, _, _, _, back⟩ := k.frame
  refine CallsH.mono (ends_spec ok kF hb) ?_
  rintro _ h' ⟨rfl, k'⟩
  exact ⟨rfl, back k'⟩
theorem bytes_call {m : Bk} (ok : BkOk m) (k : St S h0 h (BV a l c bs :: (BookL p m ++ R))) (hl : l ≤ 1099511627776) (hq : BkL m q) (hb : q + 2 ≤ 4398046511104) :
    CallsH Tryd.prog 34 #[.pointer (some ⟨p, 0, none⟩), .slice a l c] h (fun v h' => v = .tuple #[] ∧ ∃ m', BkOk m' ∧ BkL m' (q + 2) ∧ St S h0 h' (BookL p m' ++ R)) := by
  obtain ⟨F1, kF, back⟩ := k.callL
  refine CallsH.mono (bytes_book ok kF hl hq hb) ?_
  rintro _ h' ⟨rfl, m', ok', bl, k'⟩
  exact ⟨rfl, m', ok', bl, back k'⟩
theorem events_call {m : Bk} (ok : BkOk m) (k : St S h0 h (LE a l c es :: (BookL p m ++ R))) (hl : l ≤ 1099511627776) (hv : ∀ e ∈ es, e.vs.length ≤ 1099511627776) (hq : BkL m q) (hb : q + 2 * l + 2 ≤ 4398046511104) :
    CallsH Tryd.prog 36 #[.pointer (some ⟨p, 0, none⟩), .slice a l c] h (fun v h' => v = .tuple #[] ∧ ∃ m', BkOk m' ∧ BkL m' (q + 2 * l + 2) ∧ St S h0 h' (BookL p m' ++ R)) := by
  obtain ⟨F1, kF, back⟩ := k.callL
  refine CallsH.mono (events_book ok kF hl hv hq hb) ?_
  rintro _ h' ⟨rfl, m', ok', bl, k'⟩
  exact ⟨rfl, m', ok', bl, back k'⟩
theorem whole_call {m : Bk} (ok : BkOk m) (k : St S h0 h (BookL p m ++ R)) (hq : BkL m q) (hb : q ≤ 4398046511104) :
    CallsH Tryd.prog 35 #[.pointer (some ⟨p, 0, none⟩)] h (fun v h' => v = .bool true ∧ St S h0 h' (BookL p m ++ R)) := by
  refine CallsH.mono (whole_spec (ok.r k hq (by omega))) ?_
  rintro _ h' ⟨rfl, m'⟩
  exact ⟨rfl, k.next m'⟩
/-- A book, or what is kept, that is new. -/
abbrev bk0 : Bk := ⟨⟨none, 0, [], []⟩, ⟨none, 0, [], []⟩, ⟨none, 0, [], []⟩, 0, 0, 0, 0⟩
theorem bk0_ok : BkOk bk0 := ⟨CmOk.nil, CmOk.nil, CmOk.nil, ⟨rfl, Nat.le_refl _⟩, ⟨rfl, Nat.le_refl _⟩, ⟨rfl, Nat.le_refl _⟩⟩
theorem bk0_l : BkL bk0 0 := ⟨Nat.le_refl _, Nat.le_refl _, Nat.le_refl _⟩
theorem bk0_st (k : St S h0 h (A.blk p (bkC bk0) 63 :: R)) : St S h0 h (BookL p bk0 ++ R) := by
  have k : St S h0 h (A.vec 30 1 none 0 0 [] :: A.vec 25 1 none 0 0 [] :: A.vec 22 1 none 0 0 [] :: A.all [] :: A.all [] :: A.all [] :: A.blk p (bkC bk0) 63 :: R) :=
    St.vnil (St.vnil (St.vnil (St.all0 (St.all0 (St.all0 k))) 22 (by omega)) 25 (by omega)) 30 (by omega)
  exact k.pull6
abbrev kp0 : Kp := ⟨none, 0, none, 0, none, 0, none, 0, [], [], [], [], 0⟩
theorem kp0_ok : KpOk kp0 0 := ⟨rfl, rfl, fun x hx => (by cases hx), fun x hx => (by cases hx), Nat.le_refl _⟩
theorem kp0_st (k : St S h0 h (A.blk p (kpC kp0) 109 :: R)) : St S h0 h (KeptL p kp0 ++ R) := by
  have k : St S h0 h (A.vec 30 1 none 0 0 [] :: A.vec 30 1 none 0 0 [] :: A.vec 22 1 none 0 0 [] :: A.vec 22 1 none 0 0 [] :: A.all [] :: A.all [] :: A.all [] :: A.all [] :: A.blk p (kpC kp0) 109 :: R) :=
    St.vnil (St.vnil (St.vnil (St.vnil (St.all0 (St.all0 (St.all0 (St.all0 k)))) 22 (by omega)) 22 (by omega)) 30 (by omega)) 30 (by omega)
  exact k.pull8
end Go.Proofs.YtofaihacmoacjaaDoor.F
