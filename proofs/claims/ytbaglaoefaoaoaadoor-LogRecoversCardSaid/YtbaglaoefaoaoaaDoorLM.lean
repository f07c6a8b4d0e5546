/- The laws of the log: one step, told in its story too. Conditions: none. -/
import Derived.Test.YtbaglaoefaoaoaaDoorLL
namespace Go.Proofs.YtbaglaoefaoaoaaDoor.F
open Go Go.VC Go.Proofs
set_option linter.unusedSimpArgs false
set_option linter.unusedVariables false
set_option maxRecDepth 100000
attribute [local irreducible] CallsH RunsTo PureTo

variable {S F G : Nat → Prop} {h0 h h1 : Heap} {L R L' : List A} {a b0 la wa : Option Addr} {l c l2 c2 p b cl cw : Nat} {bs cs : List UInt8} {bss css : List Bytes} {s : LogS}
/-- A story that fits its log. -/
def Fits (ms : List SmM) (s : LogS) (recs : List Bytes) : Prop := ∃ init, ms.map smP = init ++ [(dirtyS s.ws, recs)] ∧ Inv s init recs
theorem Fits.last {ms : List SmM} {recs : List Bytes} (k : Fits ms s recs) : ∃ ini m, ms = ini ++ [m] ∧ m.bytes = dirtyS s.ws ∧ m.xs.map Sg.bs = recs := by
  obtain ⟨init, e, _⟩ := k
  rcases List.eq_nil_or_concat ms with rfl | ⟨ini, m, rfl⟩
  · have := congrArg List.length e
    simp at this
  · refine ⟨ini, m, by rw [List.concat_eq_append], ?_⟩
    rw [List.concat_eq_append, List.map_append] at e
    have := (List.append_inj' e rfl).2
    simp only [List.map_cons, List.map_nil, List.cons.injEq, and_true, smP, Prod.mk.injEq] at this
    exact this
theorem Fits.next {ms : List SmM} {recs recs' : List Bytes} {s' : LogS} {m : SmM} (k : Fits ms s recs) (hm : smP m = (dirtyS s'.ws, recs')) (i : ∀ init, Inv s init recs → Inv s' (init ++ [(dirtyS s.ws, recs)]) recs') : Fits (ms ++ [m]) s' recs' := by
  obtain ⟨init, e, inv⟩ := k
  exact ⟨_, by rw [List.map_append, e, List.map_cons, List.map_nil, hm], i _ inv⟩
theorem dirty_add (s : LogS) (r : Bytes) : dirtyS (addS s r).ws = dirtyS s.ws + (12 + r.length) ∨ dirtyS (addS s r).ws = dirtyS s.ws + (24 + r.length) := by
  have := dirty_snoc s.ws (addW s r)
  rw [(add_ws s r).2, this]
  have := addW_len s r
  omega
theorem dirty_roll (s : LogS) (r : Bytes) : dirtyS (rollS s r).ws = dirtyS s.ws + (24 + r.length) := by
  have := dirty_snoc s.ws (rollW s r)
  rw [(roll_ws s r).2, this, rollW_len]
theorem oneC_sm (ms : List SmM) : ∀ v ∈ ms.flatMap smC, oneC v = true := by
  intro v hv
  obtain ⟨m, _, hv⟩ := List.mem_flatMap.1 hv
  simp only [smC, List.mem_cons, List.not_mem_nil, or_false] at hv
  rcases hv with rfl | rfl <;> rfl
theorem step_spec {ms : List SmM} {recs : List Bytes} {kind on keep : Int} {r : Bytes} (k : Holds [StoA b ms, LogA 81 83 p s] F h) (hT : Tab F h) (hr : Ro F h a (bytesV r)) (hl : r.length = l) (hlb : l ≤ 140737488355328) (fit : Fits ms s recs) (hb : s.big ≤ 1073741824) (hmb : ms.length < 100000) :
    CallsH Tryd.prog 15 #[.pointer (some ⟨b, 0, none⟩), .pointer (some ⟨p, 0, none⟩), .agg #[.int .i64 kind, .int .i64 on, .slice a l c, .int .i64 keep]] h
      (fun v h' => v = .bool true ∧ ∃ ms' s' recs', Fits ms' s' recs' ∧ s'.big ≤ s.big + (min l 1048576 + 25) ∧ ms'.length ≤ ms.length + 1 ∧ St F h h' [StoA b ms', LogA 81 83 p s']) := by
  have hok : s.Ok := by obtain ⟨_, _, i⟩ := fit; exact i.ok
  have htr : tot recs ≤ s.big := by obtain ⟨_, _, i⟩ := fit; exact i.tot
  obtain ⟨ini, m, rfl, em1, em2⟩ := fit.last
  have hml : m.xs.length ≤ tot recs := by
    have := tot_len recs
    rw [← em2, List.length_map] at this
    rw [← em2]; exact this
  have hdb : dirtyS s.ws ≤ s.big := by
    have := dirty_wtot s.ws
    show _ ≤ tot s.segs + wtot s.ws
    omega
  have eml : (ini ++ [m]).length = ini.length + 1 := by simp
  refine vf15 _ _ _ _ _ _ _ _ h _ ?_
  unfold F15
  have k := St.start k
  refine k.vnew fun b1 h1 k => ⟨_, _, _, k.rd (by rfl), ?_⟩
  refine CallsH.mono (last_spec (StoA.r k.pull1) (by omega)) ?_
  rintro _ h5 ⟨rfl, m5⟩
  have k := k.next m5
  refine ⟨_, _, _, _, rfl, k.vnew fun b8 h9 k => ?_⟩
  refine k.vall (by rfl) (by rfl) fun h10 k => ⟨_, k.rd (by rfl), ?_⟩
  have k : St F h h10 [A.blk b8 #[.int .i64 m.bytes, .slice m.a m.xs.length m.c] 50, A.blk b1 #[.int .i64 kind, .int .i64 on, .slice a l c, .int .i64 keep] 41, StoA b (ini ++ [m]), LogA 81 83 p s] := k
  refine cond_split (fun hc => ?_) (fun hc => cond_split (fun hc2 => ?_) (fun hc2 => cond_split (fun hc3 => ?_) (fun hc3 => ?_)))
  · refine ⟨_, _, _, k.rd (by rfl), ?_⟩
    obtain ⟨F', G, k1, kG, d, hF, back⟩ := k.pull3.frameA
    refine CallsH.mono (append_spec k1 (hT.at k.ext hF) (hr.at k.ext hF) hl (by omega) hok (by omega)) ?_
    rintro _ h14 (⟨hgt, rfl, k2⟩ | ⟨hle, rfl, k2⟩)
    · have k := (back k2)
      have hd : decide ((l : Int) > 1048576) = true := decide_eq_true (by omega)
      refine ⟨_, rfl, cond_true hd (cond_true hd (cond_true rfl ⟨_, k.rd (by rfl), ?_⟩))⟩
      refine CallsH.mono (dirty_spec (k.log (p := p)) (by omega)) ?_
      rintro _ h18 ⟨rfl, m18⟩
      have k := k.next m18
      refine ⟨_, rfl, k.rd (by rfl), ?_, ini ++ [m], s, recs, fit, by omega, by omega, k.sel 4 [3, 0, 1, 2] rfl (by decide) (by rfl) |> fun (k : St F h h18 [StoA b (ini ++ [m]), LogA 81 83 p s, A.blk b8 #[.int .i64 m.bytes, .slice m.a m.xs.length m.c] 50, A.blk b1 #[.int .i64 kind, .int .i64 on, .slice a l c, .int .i64 keep] 41]) => k.only2⟩
      rw [em1]; simp
    · have k := (back k2)
      have hd : decide ((l : Int) > 1048576) = false := decide_eq_false (by omega)
      refine ⟨_, rfl, cond_false hd (cond_false rfl ⟨_, _, _, k.rd (by rfl), ?_⟩)⟩
      have hsm : lies none_ h14 (m.a, m.xs) := by
        obtain ⟨_, _, _, _, q⟩ := StoA.r k.pull3
        exact q m (by simp)
      refine (k.vnil 26 (sz := 1) (by omega)).app T25 und25 (by simp) (Src.slice hsm.1.sl (by rw [List.length_map, Nat.mul_one])) (oneC_sg _) (by omega) fun a27 c27 h26 k => ⟨_, _, _, rfl, _, _, _, k.rd (by rfl), ?_⟩
      simp only [Nat.zero_add] at k ⊢
      have k := k.re (y := A.vec 26 1 a27 m.xs.length c27 (m.xs.map sgV)) rfl
      refine (k.vnil 5 (sz := 1) (by omega)).app T26 und26 (by simp) (Src.slice (hr.mod k.ext).sl (by rw [bytesV_len, hl, Nat.mul_one])) (oneC_bytes _) (by omega) fun a31 c31 h30 k => ⟨_, _, _, rfl, ?_⟩
      simp only [Nat.zero_add] at k ⊢
      have k := k.re (y := BV a31 l c31 r) rfl
      refine k.vnew fun b32 h33 k => ?_
      have k : St F h h33 [A.blk b32 #[.slice a31 l c31] 26, BV a31 l c31 r, A.vec 26 1 a27 m.xs.length c27 (m.xs.map sgV), LogA 81 83 p (addS s r), A.blk b8 #[.int .i64 m.bytes, .slice m.a m.xs.length m.c] 50, A.blk b1 #[.int .i64 kind, .int .i64 on, .slice a l c, .int .i64 keep] 41, StoA b (ini ++ [m])] := k
      refine app_cell rfl (k.pull2.pull1) (by omega) fun a36 c36 h35 k => ⟨_, _, _, rfl, VSome.mk ?_⟩
      have k : St F h h35 [A.vec 26 1 a36 (m.xs.length + 1) c36 (m.xs.map sgV ++ [.slice a31 l c31]), BV a31 l c31 r, LogA 81 83 p (addS s r), A.blk b8 #[.int .i64 m.bytes, .slice m.a m.xs.length m.c] 50, A.blk b1 #[.int .i64 kind, .int .i64 on, .slice a l c, .int .i64 keep] 41, StoA b (ini ++ [m])] := k
      obtain ⟨sa, sc, ps, hps, k⟩ := StoA.open k.pull5
      refine ⟨_, _, _, k.rd (by rfl), ?_⟩
      have hbig := addS_big s r
      refine CallsH.mono (dirty_spec (k.log (p := p)) (by omega)) ?_
      rintro _ h40 ⟨rfl, m40⟩
      have k := k.next m40
      refine ⟨_, rfl, k.rd (by rfl), k.vnew fun b42 h43 k => ⟨k.rd (by rfl), ?_⟩⟩
      have hs42 : Sl h43 (some ⟨b42, 0, none⟩) [.int .i64 (dirtyS (addS s r).ws), .slice a36 (m.xs.length + 1) c36] := k.slB (b := b42)
      refine k.pull2.app T51 und51 (by simp) (Src.slice hs42 rfl) (by simp [oneC]) (by omega) fun a46 c46 h45 k => ⟨_, _, _, rfl, VSome.mk ?_⟩
      refine k.vst (by simp) fun h48 k => ⟨_, k.rd (by rfl), _, _, _, k.rd (by rfl), ?_⟩
      refine CallsH.mono (dirty_spec (k.log (p := p)) (by omega)) ?_
      rintro _ h52 ⟨rfl, m52⟩
      have k := k.next m52
      refine ⟨_, rfl, k.rd (by rfl), k.rd (by rfl), ?_⟩
      have hda := dirty_add s r
      have hdb2 : dirtyS (addS s r).ws ≤ 2147483648 := by omega
      have ew : IntKind.i64.wrap (IntKind.i64.wrap ((dirtyS (addS s r).ws : Int) - (m.bytes : Int)) - (l : Int)) = (dirtyS (addS s r).ws : Int) - (m.bytes : Int) - l := by
        rw [wrap_id (n := (dirtyS (addS s r).ws : Int) - (m.bytes : Int)) (by omega) (by omega), wrap_id (by omega) (by omega)]
      rw [ew]
      have fin : true = true ∧ ∃ ms' s' recs', Fits ms' s' recs' ∧ s'.big ≤ s.big + (min l 1048576 + 25) ∧ ms'.length ≤ (ini ++ [m]).length + 1 ∧ St F h h52 [StoA b ms', LogA 81 83 p s'] := by
        let x : Sg := ⟨a31, l, c31, r⟩
        let m' : SmM := ⟨dirtyS (addS s r).ws, a36, c36, m.xs ++ [x]⟩
        have el : (m.xs ++ [x]).length = m.xs.length + 1 := by simp
        refine ⟨rfl, (ini ++ [m]) ++ [m'], addS s r, recs ++ [r], fit.next ?_ fun init i => i.add (by omega) (by have := tot_len recs; omega), by omega, by simp, ?_⟩
        · show (dirtyS (addS s r).ws, (m.xs ++ [x]).map Sg.bs) = _
          rw [List.map_append, em2]; rfl
        · have k : St F h h52 [A.vec 50 2 a46 ((ini ++ [m]).length + 1) c46 ((ini ++ [m]).flatMap smC ++ [.int .i64 (dirtyS (addS s r).ws), .slice a36 (m.xs.length + 1) c36]), A.blk b42 #[.int .i64 (dirtyS (addS s r).ws), .slice a36 (m.xs.length + 1) c36] 50, A.blk b #[.slice a46 ((ini ++ [m]).length + 1) c46] 53, Pool ps, A.vec 26 1 a36 (m.xs.length + 1) c36 (m.xs.map sgV ++ [.slice a31 l c31]), BV a31 l c31 r, LogA 81 83 p (addS s r), A.blk b8 #[.int .i64 m.bytes, .slice m.a m.xs.length m.c] 50, A.blk b1 #[.int .i64 kind, .int .i64 on, .slice a l c, .int .i64 keep] 41] := k
          have k : St F h h52 [A.vec 26 1 a36 (m.xs.length + 1) c36 (m.xs.map sgV ++ [.slice a31 l c31]), BV a31 l c31 r, Pool ps, A.blk b #[.slice a46 ((ini ++ [m]).length + 1) c46] 53, A.vec 50 2 a46 ((ini ++ [m]).length + 1) c46 ((ini ++ [m]).flatMap smC ++ [.int .i64 (dirtyS (addS s r).ws), .slice a36 (m.xs.length + 1) c36]), LogA 81 83 p (addS s r), A.blk b42 #[.int .i64 (dirtyS (addS s r).ws), .slice a36 (m.xs.length + 1) c36] 50, A.blk b8 #[.int .i64 m.bytes, .slice m.a m.xs.length m.c] 50, A.blk b1 #[.int .i64 kind, .int .i64 on, .slice a l c, .int .i64 keep] 41] := k.sel 9 [4, 5, 3, 2, 0, 6, 1, 7, 8] rfl (by decide) (by rfl)
          have k := k.re (y := A.vec 26 1 a36 (m.xs.length + 1) c36 ((m.xs ++ [x]).map sgV)) (by rw [List.map_append]; rfl)
          have k := Pool.put (x := x) (fun y hy => ⟨_, hps m (by simp), hy⟩) k
          have k := k.pull1.pull2
          have k := k.re (y := A.vec 50 2 a46 ((ini ++ [m]).length + 1) c46 (((ini ++ [m]) ++ [m']).flatMap smC)) (by rw [List.flatMap_append (xs := ini ++ [m])]; simp [smC, m', el])
          have k := StoA.close (ms := (ini ++ [m]) ++ [m']) (by simp) (fun y hy => by
            rcases List.mem_append.1 hy with hy | hy
            · exact List.mem_cons_of_mem _ (hps y hy)
            · simp only [List.mem_singleton] at hy; subst hy; exact List.mem_cons_self) k.pull1
          exact k.only2
      refine cond_split (fun _ => ⟨by first | exact trivial | rfl, fin.2⟩) (fun h12 => ?_)
      have h24 : (dirtyS (addS s r).ws : Int) - (m.bytes : Int) - l = 24 := by
        have h12 : (dirtyS (addS s r).ws : Int) - (m.bytes : Int) - l ≠ 12 := by simpa using h12
        omega
      rw [h24]
      exact ⟨rfl, fin.2⟩
  · refine ⟨_, _, _, k.rd (by rfl), ?_⟩
    obtain ⟨F', G, k1, kG, d, hF, back⟩ := k.pull3.frameA
    refine CallsH.mono (roll_spec k1 (hT.at k.ext hF) (hr.at k.ext hF) hl (by omega) hok (by omega)) ?_
    rintro _ h14 (⟨hgt, rfl, k2⟩ | ⟨hle, rfl, k2⟩)
    · have k := (back k2)
      have hd : decide ((l : Int) > 1048576) = true := decide_eq_true (by omega)
      refine ⟨_, rfl, cond_true hd (cond_true hd (cond_true rfl ⟨_, k.rd (by rfl), ?_⟩))⟩
      refine CallsH.mono (dirty_spec (k.log (p := p)) (by omega)) ?_
      rintro _ h18 ⟨rfl, m18⟩
      have k := k.next m18
      refine ⟨_, rfl, k.rd (by rfl), ?_, ini ++ [m], s, recs, fit, by omega, by omega, k.sel 4 [3, 0, 1, 2] rfl (by decide) (by rfl) |> fun (k : St F h h18 [StoA b (ini ++ [m]), LogA 81 83 p s, A.blk b8 #[.int .i64 m.bytes, .slice m.a m.xs.length m.c] 50, A.blk b1 #[.int .i64 kind, .int .i64 on, .slice a l c, .int .i64 keep] 41]) => k.only2⟩
      rw [em1]; simp
    · have k := (back k2)
      have hd : decide ((l : Int) > 1048576) = false := decide_eq_false (by omega)
      refine ⟨_, rfl, cond_false hd (cond_false rfl (VSome.mk ?_))⟩
      have k : St F h h14 [LogA 81 83 p (rollS s r), A.blk b8 #[.int .i64 m.bytes, .slice m.a m.xs.length m.c] 50, A.blk b1 #[.int .i64 kind, .int .i64 on, .slice a l c, .int .i64 keep] 41, StoA b (ini ++ [m])] := k
      obtain ⟨sa, sc, ps, hps, k⟩ := StoA.open k.pull3
      refine ⟨_, _, _, k.rd (by rfl), _, _, _, k.rd (by rfl), ?_⟩
      have hbig := rollS_big s r
      refine CallsH.mono (dirty_spec (k.log (p := p)) (by omega)) ?_
      rintro _ h40 ⟨rfl, m40⟩
      have k := k.next m40
      refine ⟨_, rfl, k.rd (by rfl), k.rd (by rfl), ?_⟩
      refine (k.vnil 5 (sz := 1) (by omega)).app T26 und26 (by simp) (Src.slice (hr.mod k.ext).sl (by rw [bytesV_len, hl, Nat.mul_one])) (oneC_bytes _) (by omega) fun a31 c31 h30 k => ⟨_, _, _, rfl, ?_⟩
      simp only [Nat.zero_add] at k ⊢
      have k := k.re (y := BV a31 l c31 r) rfl
      refine ⟨k.rd (by rfl), k.vnew fun b75 h76 k => ⟨k.rd (by rfl), k.vnew fun b42 h43 k => ⟨k.rd (by rfl), ?_⟩⟩⟩
      have hs42 : Sl h43 (some ⟨b42, 0, none⟩) [.int .i64 (dirtyS (rollS s r).ws), .slice (some ⟨b75, 0, none⟩) 1 1] := k.slB (b := b42)
      refine k.pull4.app T51 und51 (by simp) (Src.slice hs42 rfl) (by simp [oneC]) (by omega) fun a46 c46 h45 k => ⟨_, _, _, rfl, VSome.mk ?_⟩
      refine k.vst (by simp) fun h48 k => ⟨_, k.rd (by rfl), _, _, _, k.rd (by rfl), ?_⟩
      refine CallsH.mono (dirty_spec (k.log (p := p)) (by omega)) ?_
      rintro _ h52 ⟨rfl, m52⟩
      have k := k.next m52
      refine ⟨_, rfl, k.rd (by rfl), k.rd (by rfl), ?_⟩
      have hda := dirty_roll s r
      have ew : IntKind.i64.wrap (IntKind.i64.wrap ((m.bytes : Int) + 24) + (l : Int)) = (m.bytes : Int) + 24 + l := by
        rw [wrap_id (n := (m.bytes : Int) + 24) (by omega) (by omega), wrap_id (by omega) (by omega)]
      rw [ew]
      let x : Sg := ⟨a31, l, c31, r⟩
      let m' : SmM := ⟨dirtyS (rollS s r).ws, some ⟨b75, 0, none⟩, 1, [] ++ [x]⟩
      refine ⟨?_, (ini ++ [m]) ++ [m'], rollS s r, [r], fit.next rfl fun init i => i.roll (by omega), by omega, by simp, ?_⟩
      · have : (dirtyS (rollS s r).ws : Int) = (m.bytes : Int) + 24 + l := by omega
        rw [this]; simp
      · have k : St F h h52 [A.vec 50 2 a46 ((ini ++ [m]).length + 1) c46 ((ini ++ [m]).flatMap smC ++ [.int .i64 (dirtyS (rollS s r).ws), .slice (some ⟨b75, 0, none⟩) 1 1]), A.blk b42 #[.int .i64 (dirtyS (rollS s r).ws), .slice (some ⟨b75, 0, none⟩) 1 1] 50, A.blk b75 #[.slice a31 l c31] 26, BV a31 l c31 r, A.blk b #[.slice a46 ((ini ++ [m]).length + 1) c46] 53, Pool ps, LogA 81 83 p (rollS s r), A.blk b8 #[.int .i64 m.bytes, .slice m.a m.xs.length m.c] 50, A.blk b1 #[.int .i64 kind, .int .i64 on, .slice a l c, .int .i64 keep] 41] := k
        have k : St F h h52 [A.blk b75 #[.slice a31 l c31] 26, BV a31 l c31 r, Pool ps, A.blk b #[.slice a46 ((ini ++ [m]).length + 1) c46] 53, A.vec 50 2 a46 ((ini ++ [m]).length + 1) c46 ((ini ++ [m]).flatMap smC ++ [.int .i64 (dirtyS (rollS s r).ws), .slice (some ⟨b75, 0, none⟩) 1 1]), LogA 81 83 p (rollS s r), A.blk b42 #[.int .i64 (dirtyS (rollS s r).ws), .slice (some ⟨b75, 0, none⟩) 1 1] 50, A.blk b8 #[.int .i64 m.bytes, .slice m.a m.xs.length m.c] 50, A.blk b1 #[.int .i64 kind, .int .i64 on, .slice a l c, .int .i64 keep] 41] := k.sel 9 [2, 3, 5, 4, 0, 6, 1, 7, 8] rfl (by decide) (by rfl)
        have k := k.blkvec (sz := 1) (n := 1) rfl (by omega) (by omega)
        have k := k.re (y := A.vec 26 1 (some ⟨b75, 0, none⟩) 1 1 (([] ++ [x]).map sgV)) rfl
        have k := Pool.put (x := x) (by simp) k
        have k := k.pull1.pull2
        have k := k.re (y := A.vec 50 2 a46 ((ini ++ [m]).length + 1) c46 (((ini ++ [m]) ++ [m']).flatMap smC)) (by rw [List.flatMap_append (xs := ini ++ [m])]; simp [smC, m'])
        have k := StoA.close (ms := (ini ++ [m]) ++ [m']) (by simp) (fun y hy => by
          rcases List.mem_append.1 hy with hy | hy
          · exact List.mem_cons_of_mem _ (hps y hy)
          · simp only [List.mem_singleton] at hy; subst hy; exact List.mem_cons_self) k.pull1
        exact k.only2
  · obtain ⟨F', G, k1, kG, d, hF, back⟩ := k.pull3.frameA
    refine CallsH.mono (sync_spec k1 (by omega) hok) ?_
    rintro _ h14 ⟨rfl, k2⟩
    have k := (back k2)
    refine ⟨rfl, _, _, _, k.rd (by rfl), k.vnew fun b92 h93 k => VSome.mk ?_⟩
    have k : St F h h93 [A.blk b92 #[.int .i64 0, .slice m.a m.xs.length m.c] 50, LogA 81 83 p (syncS s), A.blk b8 #[.int .i64 m.bytes, .slice m.a m.xs.length m.c] 50, A.blk b1 #[.int .i64 kind, .int .i64 on, .slice a l c, .int .i64 keep] 41, StoA b (ini ++ [m])] := k
    obtain ⟨sa, sc, ps, hps, k⟩ := StoA.open k.pull4
    refine k.vst (by simp) fun h95 k => ?_
    have hbig := syncS_big s
    refine CallsH.mono (dirty_spec (k.log (p := p)) (by omega)) ?_
    rintro _ h97 ⟨rfl, m97⟩
    have k := k.next m97
    have ed : dirtyS (syncS s).ws = 0 := by rw [sync_ws]; rfl
    rw [ed]
    refine ⟨_, rfl, rfl, [⟨0, m.a, m.c, m.xs⟩], syncS s, recs, ?_, by omega, by simp, ?_⟩
    · obtain ⟨init, _, i⟩ := fit
      refine ⟨[], ?_, i.sync⟩
      rw [ed, ← em2]; rfl
    · have k : St F h h97 [A.blk b #[.slice (some ⟨b92, 0, none⟩) 1 1] 53, A.vec 50 2 sa (ini ++ [m]).length sc ((ini ++ [m]).flatMap smC), Pool ps, A.blk b92 #[.int .i64 0, .slice m.a m.xs.length m.c] 50, LogA 81 83 p (syncS s), A.blk b8 #[.int .i64 m.bytes, .slice m.a m.xs.length m.c] 50, A.blk b1 #[.int .i64 kind, .int .i64 on, .slice a l c, .int .i64 keep] 41] := k
      have k := k.pull3.blkvec (sz := 2) (n := 1) rfl (by omega) (by omega)
      have k : St F h h97 [A.blk b #[.slice (some ⟨b92, 0, none⟩) 1 1] 53, A.vec 50 2 (some ⟨b92, 0, none⟩) 1 1 (([⟨0, m.a, m.c, m.xs⟩] : List SmM).flatMap smC), Pool ps, LogA 81 83 p (syncS s), A.vec 50 2 sa (ini ++ [m]).length sc ((ini ++ [m]).flatMap smC), A.blk b8 #[.int .i64 m.bytes, .slice m.a m.xs.length m.c] 50, A.blk b1 #[.int .i64 kind, .int .i64 on, .slice a l c, .int .i64 keep] 41] := k.sel 7 [1, 0, 3, 4, 2, 5, 6] rfl (by decide) (by rfl)
      have k := StoA.close (ms := [⟨0, m.a, m.c, m.xs⟩]) rfl (fun y hy => by
        simp only [List.mem_singleton] at hy; subst hy; exact hps m (by simp)) k
      exact k.only2
  · exact ⟨rfl, ini ++ [m], s, recs, fit, by omega, by omega, (k.dropL (L := [_, _]))⟩
end Go.Proofs.YtbaglaoefaoaoaaDoor.F
