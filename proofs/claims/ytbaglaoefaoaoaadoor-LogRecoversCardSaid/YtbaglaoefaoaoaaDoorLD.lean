/- The laws of the log: a disk's twin in the law's own places. Conditions: none. -/
import Derived.Test.YtbaglaoefaoaoaaDoorLC
namespace Go.Proofs.YtbaglaoefaoaoaaDoor.F
open Go Go.VC Go.Proofs
set_option linter.unusedSimpArgs false
set_option linter.unusedVariables false
set_option maxRecDepth 100000
attribute [local irreducible] CallsH RunsTo PureTo

variable {S F G : Nat → Prop} {h0 h h1 : Heap} {L R L' : List A} {a b : Option Addr} {l c l2 c2 p : Nat} {bs cs : List UInt8} {bss css : List Bytes}
structure PlM where
  sa : Option Addr
  sl : Nat
  sc : Nat
  ra : Option Addr
  rl : Nat
  rc : Nat
  rb : Bytes
  xs : List Sg
/-- The law's places, whatever lies there. -/
def PlA (p : Nat) : A := A.ex fun m : PlM => A.all [A.blk p #[.slice m.sa m.sl m.sc, .slice m.ra m.rl m.rc] 28, BV m.ra m.rl m.rc m.rb, A.vec 26 1 m.sa m.sl m.sc (m.xs.map sgV), A.all (m.xs.map BS)]
def preV (x : Sg) : Value := .slice x.a (x.l - 70) x.l
/-- What a twin is made of. -/
def TwL (p : Nat) (m : PlM) (ys ms : List Sg) (l : Nat) (la : Option Addr) (cl : Nat) (wa : Option Addr) (cw : Nat) : List A :=
  [A.blk p #[.slice m.sa m.sl m.sc, .slice m.ra m.rl m.rc] 28, BV m.ra m.rl m.rc m.rb, A.vec 26 1 m.sa m.sl m.sc ((m.xs ++ ys).map sgV), A.all (m.xs.map BS), A.all (ys.map BS), A.vec 26 1 la (l + 70) cl (m.xs.map preV ++ ms.map sgV), A.all (ms.map BS), A.vec 26 1 wa l cw (m.xs.map sgV)]
theorem map_add0 (a : Option Addr) : a.map (·.add (0 * 1)) = a := by
  cases a with
  | none => rfl
  | some ad => simp [Addr.add]
theorem sl_cell {g o : Nat} {vs : List Value} (k : Sl h (some ⟨g, o, none⟩) vs) {i : Nat} {v : Value} (hv : vs[i]? = some v) : cellH h ⟨g, o + i, none⟩ = some v := by
  obtain ⟨ad, h1, h2⟩ := k i v hv
  cases h1
  rwa [add_plain] at h2
theorem vidx_at {g o n : Nat} {i : Nat} {K : Addr → Prop} (hi : i < n) (q : K ⟨g, o + i, none⟩) : VIdx (some ⟨g, o, none⟩) n (i : Int) 1 K := by
  refine ⟨by omega, by omega, VSome.mk ?_⟩
  rw [Int.toNat_natCast, Nat.mul_one, add_plain]; exact q
theorem oneC_pre (xs : List Sg) : ∀ v ∈ xs.map preV, oneC v = true := by
  intro v hv
  obtain ⟨b, _, rfl⟩ := List.mem_map.1 hv
  rfl
/-- One more slice in a list. -/
theorem app_cell {v : Value} {bb n : Nat} {vs : List Value} (hv : oneC v = true) (k : St S h0 h (A.blk bb #[v] n :: A.vec 26 1 a l c vs :: R)) (hb : (l + 1) * 24 ≤ 140737488355328) {K : KV}
    (q : ∀ a' c' h', St S h0 h' (A.vec 26 1 a' (l + 1) c' (vs ++ [v]) :: R) → K (.slice a' (l + 1) c') h') : RunsTo Tryd.prog (Builtin.append_ #[25, 25] 25 #[.slice a l c, .slice (some ⟨bb, 0, none⟩) 1 1]) h K := by
  have hsl : Sl h (some ⟨bb, 0, none⟩) [v] := k.slB (b := bb)
  refine k.pull1.app T25 und25 (by simp) (Src.slice hsl rfl) (by simpa using hv) hb fun a' c' h' k => q a' c' h' k.pull1.drop
theorem placed_spec (k : Holds [PlA p] F h) (hd : RoL F h a l bss) (hb : tot bss ≤ 137438953472) :
    CallsH Tryd.prog 26 #[.pointer (some ⟨p, 0, none⟩), .agg #[.slice a l c]] h (fun v h' => ∃ (m : PlM) (ys ms : List Sg) (la : Option Addr) (cl : Nat) (wa : Option Addr) (cw : Nat),
      v = .tuple #[.agg #[.slice la l (l + 70)], .slice la (l + 70) cl, .slice wa l cw] ∧ m.xs.map Sg.bs = bss.map roomB ∧ ms.map Sg.bs = List.replicate 70 [204] ∧ St F h h' (TwL p m ys ms l la cl wa cw)) := by
  refine vf26 _ _ _ _ h _ ?_
  unfold F26
  have k := St.start k
  have htl := tot_len bss
  have hsl : bss.length = l := by obtain ⟨_, _, _, _, e⟩ := hd; exact e
  refine k.vnew fun b1 h1 k => k.vnew fun b3 h2 k => ?_
  obtain ⟨m0, w⟩ := St.opens k.pull2
  have w := St.open w
  refine ⟨fun n hh la ll cl wa wl wc i => ∃ (j : Nat) (m : PlM) (ys : List Sg), i = j ∧ j ≤ l ∧ n = l - j ∧ j = ll ∧ j = wl ∧ m.xs.length = j ∧ m.xs.map Sg.bs = (bss.take j).map roomB ∧
      St F h hh [A.blk p #[.slice m.sa m.sl m.sc, .slice m.ra m.rl m.rc] 28, BV m.ra m.rl m.rc m.rb, A.vec 26 1 m.sa m.sl m.sc ((m.xs ++ ys).map sgV), A.all (m.xs.map BS), A.all (ys.map BS), A.vec 26 1 la ll cl (m.xs.map preV), A.vec 26 1 wa wl wc (m.xs.map sgV), A.blk b1 #[.slice a l c] 34, A.blk b3 #[.slice none 0 0] 34],
    ⟨_, 0, { m0 with xs := [] }, m0.xs, rfl, by omega, rfl, rfl, rfl, rfl, rfl, ?_⟩, ?_⟩
  · have w := ((w.all0).vnil 26 (sz := 1) (by omega)).vnil 26 (sz := 1) (by omega)
    exact w.sel 9 [3, 4, 5, 2, 6, 0, 1, 8, 7] rfl (by decide) (by rfl)
  clear k w
  rintro n hh _ la ll cl wa wl wc i ⟨j, m, ys, rfl, hj, rfl, rfl, rfl, hxl, hxb, k⟩
  refine ⟨_, _, _, k.rd (by rfl), cond_split (fun hc => ?_) (fun hc => ?_)⟩
  · have hjl : j < l := Int.ofNat_lt.1 (of_decide_eq_true hc)
    clear hc
    refine ⟨fun h' => ∃ (m' : PlM) (y : Sg) (ys' : List Sg), m'.xs = m.xs ∧
      St F h h' [A.blk p #[.slice m'.sa m'.sl m'.sc, .slice m'.ra m'.rl m'.rc] 28, BV m'.ra m'.rl m'.rc m'.rb, A.vec 26 1 m'.sa m'.sl m'.sc ((m.xs ++ y :: ys').map sgV), A.all (m.xs.map BS), A.all ((y :: ys').map BS), A.vec 26 1 la j cl (m.xs.map preV), A.vec 26 1 wa j wc (m.xs.map sgV), A.blk b1 #[.slice a l c] 34, A.blk b3 #[.slice none 0 0] 34],
      VSome.mk ⟨_, _, _, k.rd (by rfl), ?_⟩, ?_⟩
    · have hvl := (St.vec (a := m.sa) k.pull2).1.len
      rw [List.length_map, List.length_append, hxl, Nat.mul_one] at hvl
      refine cond_split (fun hc => ?_) (fun hc => ?_)
      · have hsl2 : m.sl = j := by
          have : (j : Int) = m.sl := by simpa using hc
          omega
        have hys : ys = [] := List.eq_nil_of_length_eq_zero (by omega)
        subst hys
        refine VSome.mk ⟨_, _, _, k.rd (by rfl), ?_⟩
        refine k.make T26 (n := 0) (m := 5000) rfl rfl (by omega) (by omega) fun a4 h4 k => ⟨_, _, _, rfl, k.rd (by rfl), k.vnew fun bb h5 k => ⟨k.rd (by rfl), ?_⟩⟩
        refine app_cell rfl (k.pull4.pull1) (by omega) fun a5 c5 h6 k => ⟨_, _, _, rfl, VSome.mk ?_⟩
        refine k.vst (by simp) fun h7 k => ?_
        refine ⟨{ m with sa := a5, sl := m.sl + 1, sc := c5 }, ⟨a4, 0, 5000, []⟩, [], rfl, ?_⟩
        have e : (m.xs ++ []).map sgV ++ [.slice a4 0 5000] = (m.xs ++ [(⟨a4, 0, 5000, []⟩ : Sg)]).map sgV := by simp [sgV]
        rw [e] at k
        have k := (k.pull5.pull2.allIn)
        exact k.sel 9 [2, 3, 1, 4, 0, 5, 6, 7, 8] rfl (by decide) (by rfl)
      · have hne : ys ≠ [] := by
          intro h0
          subst h0
          have : (j : Int) = m.sl := by simp only [List.length_nil] at hvl; omega
          rw [this] at hc; simp at hc
        obtain ⟨y, ys', rfl⟩ := List.exists_cons_of_ne_nil hne
        exact ⟨m, y, ys', rfl, k⟩
    · clear k
      rintro h3 _ ⟨m', y, ys', hmx, k⟩
      have hvl := (St.vec (a := m'.sa) k.pull2).1.len
      have hvc := (St.vec (a := m'.sa) k.pull2).1.le
      rw [List.length_map, List.length_append, hxl, Nat.mul_one, List.length_cons] at hvl
      obtain ⟨g, o, hsa⟩ := k.pull2.vaddr (by omega)
      have hyi : (m.xs ++ y :: ys')[j]? = some y := by rw [List.getElem?_append_right (by omega), hxl, Nat.sub_self]; rfl
      have hyc : ((m.xs ++ y :: ys').map sgV)[j]? = some (sgV y) := by rw [List.getElem?_map, hyi]; rfl
      refine VSome.mk ⟨_, _, _, k.rd (by rfl), VSome.mk ⟨_, _, _, k.rd (by rfl), ?_⟩⟩
      rw [hsa] at k ⊢
      refine vidx_at (by omega) ⟨_, _, _, sl_cell (k.sl (a := some ⟨g, o, none⟩)) hyc, ?_⟩
      have k := k.pull4.allOut
      refine k.cut (lo := 0) (hi := 0) (mx := y.c) rfl rfl rfl (by omega) (by omega) (by omega) (Nat.le_refl _) fun a5 k => ⟨_, _, _, k.rd (by rfl), ?_⟩
      have hdk := hd.in k
      refine hdk.one (by omega) (by omega) fun ad x hx hcell r1 r2 r3 => ⟨_, _, _, hcell, ?_⟩
      rw [Int.toNat_natCast] at hx
      have htx := tot_get hx
      refine CallsH.mono (roomy_spec r1.sl r2 (by omega)) ?_
      rintro _ h4 ⟨a6, c6, rfl, k1⟩
      have k := k.add1 k1
      refine ⟨_, _, _, rfl, sl_cell (k.sl (a := some ⟨g, o, none⟩)) hyc, k.rd (by rfl), k.rd (by rfl), ?_⟩
      have hlen6 : (bytesV (roomB x.bs)).length = (x.l + 70) * 1 := by rw [bytesV_len, roomB_len]; omega
      refine k.pull1.app T26 und26 (by simp) (Src.slice (k.sl (a := a6)) hlen6) (oneC_bytes _) (by omega) fun a7 c7 h5 k => ⟨_, _, _, rfl, k.rd (by rfl), ?_⟩
      have k := k.pull1.drop
      refine vidx_at (by omega) ?_
      refine St.vset (P := Tryd.prog) k.pull4 (i := j) (by omega) fun h6 k => VSome.mk ⟨_, _, _, k.rd (by rfl), ?_⟩
      have es : ((m.xs ++ y :: ys').map sgV).set j (.slice a7 (0 - 0 + (x.l + 70)) c7) = (m.xs ++ (⟨a7, 0 - 0 + (x.l + 70), c7, roomB x.bs⟩ : Sg) :: ys').map sgV := by
        rw [List.map_append, List.map_append, List.set_append_right _ _ (by rw [List.length_map]; omega), List.length_map, hxl, Nat.sub_self]; rfl
      rw [es] at k
      generalize hz : (⟨a7, 0 - 0 + (x.l + 70), c7, roomB x.bs⟩ : Sg) = z at *
      have hzi : (m.xs ++ z :: ys')[j]? = some z := by rw [List.getElem?_append_right (by omega), hxl, Nat.sub_self]; rfl
      have hzc : ((m.xs ++ z :: ys').map sgV)[j]? = some (sgV z) := by rw [List.getElem?_map, hzi]; rfl
      have hza : a7 = z.a ∧ 0 - 0 + (x.l + 70) = z.l ∧ c7 = z.c ∧ roomB x.bs = z.bs := by rw [← hz]; exact ⟨rfl, rfl, rfl, rfl⟩
      obtain ⟨ea, el, ec, eb⟩ := hza
      refine vidx_at (by omega) ⟨_, _, _, sl_cell (k.sl (a := some ⟨g, o, none⟩)) hzc, k.vnew fun bb h7 k => ?_⟩
      have hbz : A.vec 5 1 a7 (0 - 0 + (x.l + 70)) c7 (List.drop (0 * 1) (List.take (0 * 1) (bytesV y.bs)) ++ bytesV (roomB x.bs)) = BS z := by
        rw [ea, el, ec, eb]; rfl
      have k := k.pull2.re hbz
      refine app_cell rfl (k.pull8.pull2) (by omega) fun a8 c8 h8 k => ⟨_, _, _, rfl, _, _, _, k.rd (by rfl), ?_⟩
      refine (hd.in k).one (by omega) (by omega) fun ad2 x2 hx2 hcell2 s1 s2 s3 => ⟨_, _, _, hcell2, ?_⟩
      rw [Int.toNat_natCast, hx] at hx2
      have hxx : x2.l = x.l := by rw [← s2, ← r2, Option.some.inj hx2]
      rw [hxx]
      have hzlc : z.l ≤ z.c := (BS.len k.pull1).2.1
      refine ⟨0, x.l, z.l, rfl, rfl, rfl, by omega, by omega, hzlc, ?_⟩
      rw [if_neg (by omega), map_add0, Nat.sub_zero, Nat.sub_zero]
      have hpv : Value.slice z.a x.l z.l = preV z := by
        unfold preV
        rw [← el, show 0 - 0 + (x.l + 70) - 70 = x.l by omega]
      show VNew h8 (.cells #[.slice z.a x.l z.l] 26) _
      rw [hpv]
      refine k.vnew fun bc h9 k => ?_
      refine app_cell (v := preV z) rfl (k.pull8.pull1) (by omega) fun a9 c9 h10 k => ⟨_, _, _, rfl, _, ?_, j + 1, { m' with sa := some ⟨g, o, none⟩, xs := m.xs ++ [z] }, ys', wrap_nat hjl (by omega), hjl, rfl, rfl, rfl, ?_, ?_, ?_⟩
      · omega
      · rw [List.length_append, hxl]; rfl
      · rw [take_next hx, List.map_append, List.map_append, hxb]
        show _ ++ [z.bs] = _ ++ [roomB x.bs]
        rw [eb]
      · have k := (k.pull7.pull3.allIn).allPerm (L' := (m.xs ++ [z]).map BS) (by rw [List.map_append]; exact (List.perm_append_singleton _ _).symm)
        have e1 : m.xs.map preV ++ [preV z] = (m.xs ++ [z]).map preV := by simp
        have e2 : m.xs.map sgV ++ [.slice z.a z.l z.c] = (m.xs ++ [z]).map sgV := by simp [sgV]
        have e3 : m.xs ++ z :: ys' = m.xs ++ [z] ++ ys' := by simp
        rw [e1, e2, e3] at k
        exact k.sel 9 [5, 6, 3, 0, 4, 1, 2, 7, 8] rfl (by decide) (by rfl)
  · have hjl : j = l := by
      have : ¬ (j : Int) < l := of_decide_eq_false hc
      omega
    subst hjl
    clear hc
    rw [List.take_of_length_le (by omega)] at hxb
    refine ⟨fun n hh la ll cl i => ∃ (q : Nat) (ms : List Sg), i = q ∧ q ≤ 70 ∧ n = 70 - q ∧ ll = j + q ∧ ms.map Sg.bs = List.replicate q [204] ∧
      St F h hh [A.blk p #[.slice m.sa m.sl m.sc, .slice m.ra m.rl m.rc] 28, BV m.ra m.rl m.rc m.rb, A.vec 26 1 m.sa m.sl m.sc ((m.xs ++ ys).map sgV), A.all (m.xs.map BS), A.all (ys.map BS), A.vec 26 1 la ll cl (m.xs.map preV ++ ms.map sgV), A.all (ms.map BS), A.vec 26 1 wa j wc (m.xs.map sgV), A.blk b1 #[.slice a j c] 34, A.blk b3 #[.slice none 0 0] 34],
      ⟨_, 0, [], rfl, by omega, rfl, rfl, rfl, ?_⟩, ?_⟩
    · have e : m.xs.map preV = m.xs.map preV ++ ([] : List Sg).map sgV := by simp
      rw [e] at k
      exact (k.all0).sel 10 [1, 2, 3, 4, 5, 6, 0, 7, 8, 9] rfl (by decide) (by rfl)
    · clear k
      rintro n hh _ la ll cl i ⟨q, ms, rfl, hq, rfl, rfl, hms, k⟩
      refine cond_split (fun hc => ?_) (fun hc => ?_)
      · have hq70 : q < 70 := by
          have : (q : Int) < 70 := of_decide_eq_true hc
          omega
        refine k.vnew fun b4 h4 k => k.vnew fun b5 h5 k => ?_
        refine app_cell rfl (k.pull7.pull1) (by omega) fun a9 c9 h10 k => ⟨_, _, _, rfl, _, ?_, q + 1, ms ++ [⟨some ⟨b4, 0, none⟩, 1, 1, [204]⟩], wrap_nat hq70 (by omega), hq70, rfl, by omega, ?_, ?_⟩
        · omega
        · rw [List.map_append, hms, List.replicate_succ']; rfl
        · have k := (k.pull1.blkvec (sz := 1) (n := 1) rfl (by omega) (by omega)).re (y := BS ⟨some ⟨b4, 0, none⟩, 1, 1, [204]⟩) rfl
          have k := (k.pull7.pull1.allIn).allPerm (L' := (ms ++ [(⟨some ⟨b4, 0, none⟩, 1, 1, [204]⟩ : Sg)]).map BS) (by rw [List.map_append]; exact (List.perm_append_singleton _ _).symm)
          have e1 : m.xs.map preV ++ ms.map sgV ++ [.slice (some ⟨b4, 0, none⟩) 1 1] = m.xs.map preV ++ (ms ++ [(⟨some ⟨b4, 0, none⟩, 1, 1, [204]⟩ : Sg)]).map sgV := by simp [sgV]
          rw [e1] at k
          exact k.sel 10 [2, 3, 4, 5, 6, 1, 0, 7, 8, 9] rfl (by decide) (by rfl)
      · have hq70 : q = 70 := by
          have : ¬ (q : Int) < 70 := of_decide_eq_false hc
          omega
        subst hq70
        have hle := (St.vec (a := la) k.pull5).1.le
        refine ⟨_, _, _, k.rd (by rfl), 0, j, j + 70, rfl, rfl, rfl, by omega, by omega, hle, ?_⟩
        rw [if_neg (by omega), map_add0, Nat.sub_zero, Nat.sub_zero]
        refine k.vst (by simp) fun h11 k => ⟨_, _, _, k.rd (by rfl), m, ys, ms, la, cl, wa, wc, rfl, hxb, hms, ?_⟩
        exact St.dropL (L := [A.blk b1 #[.slice a j c] 34, A.blk b3 (#[.slice none 0 0].setIfInBounds 0 (.slice la j (j + 70))) 34]) (R := TwL p m ys ms j la cl wa wc) (k.sel 10 [8, 9, 0, 1, 2, 3, 4, 5, 6, 7] rfl (by decide) (by rfl))
end Go.Proofs.YtbaglaoefaoaoaaDoor.F
