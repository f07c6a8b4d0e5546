/- The laws of wire: events that are handed in, with room behind; batches as the document says. Conditions: none. -/
import Derived.Test.YtofaihacmoacjaaDoorWJ
namespace Go.Proofs.YtofaihacmoacjaaDoor.F
open Go Go.VC Go.Proofs
set_option linter.unusedSimpArgs false
set_option linter.unusedVariables false
set_option maxRecDepth 100000
attribute [local irreducible] CallsH RunsTo PureTo

variable {S F G : Nat → Prop} {h0 h h1 : Heap} {L R L' : List A} {a b ia ra : Option Addr} {l c l2 c2 p t at_ : Nat} {bs cs : List UInt8} {bss css : List Bytes} {e : Ev} {v : Val} {es fs : List Ev}
/-- A cell of a slice that is held is written. -/
theorem _root_.Go.VC.St.vcell {e sz g o r : Nat} {vs : List Value} {w : Value} (k : St S h0 h (A.vec e sz (some ⟨g, o, none⟩) l c vs :: R)) (hr : r < l * sz) {K : Heap → Prop}
    (q : ∀ h', St S h0 h' (A.vec e sz (some ⟨g, o, none⟩) l c (vs.set r w) :: R) → K h') : VStore h ⟨g, o + r, none⟩ w K := by
  obtain ⟨F, G, k1, kG, d, hf, back⟩ := k.frameA
  obtain ⟨hv, hF, hs, hc⟩ := k1.one
  rcases hv.room with h00 | ⟨g', o', cur, e1, hB, hsz⟩
  · have := hv.le
    have : l = 0 := by omega
    subst this
    rw [Nat.zero_mul] at hr; omega
  · cases e1
    have hle := hv.le
    have hlen := hv.len
    have hlc : l * sz ≤ c * sz := Nat.mul_le_mul_right sz hle
    have hc0 : 0 < c := by
      rcases Nat.eq_zero_or_pos c with h | h
      · subst h
        rw [Nat.zero_mul] at hlc; omega
      · exact h
    refine VStore.mk hB (by omega) fun h1 hB1 m s => q h1 (back ⟨m.mono fun b hb => by subst hb; exact .inl ((hF _).2 ⟨hc0, rfl⟩), F, .mk1 ⟨⟨by rw [List.length_set, hlen], hle, ?_, .inr ⟨g, o, _, rfl, hB1, by simpa using hsz⟩⟩, hF, hs, hc⟩, fun b hb => .inl hb⟩)
    refine hB1.sl o fun j u hj => ?_
    rw [List.getElem?_set] at hj
    rw [Array.getElem?_setIfInBounds]
    by_cases e2 : r = j
    · subst e2
      rw [if_pos rfl, if_pos (by omega)] at hj
      rw [if_pos rfl, if_pos (by omega)]; exact hj
    · rw [if_neg e2] at hj
      rw [if_neg (by omega)]
      exact hv.at hB j u hj
theorem flat_cell {α : Type} {f : α → List Value} {sz : Nat} (hf : ∀ x, (f x).length = sz) {r : Nat} {w : Value} {y : α} (hr : r < sz) : ∀ {xs : List α} {i : Nat} {x : α}, xs[i]? = some x → f y = (f x).set r w → (xs.flatMap f).set (i * sz + r) w = (xs.set i y).flatMap f
  | [], i, x, h, _ => by simp at h
  | z :: xs, 0, x, h, hy => by
    simp at h; subst h
    rw [List.flatMap_cons, Nat.zero_mul, Nat.zero_add, List.set_append_left _ _ (by rw [hf]; exact hr), List.set_cons_zero, List.flatMap_cons, hy]
  | z :: xs, i + 1, x, h, hy => by
    rw [List.flatMap_cons, List.set_append_right _ _ (by rw [hf, Nat.succ_mul]; omega), hf, List.set_cons_succ, List.flatMap_cons, show (i + 1) * sz + r - sz = i * sz + r by rw [Nat.succ_mul]; omega, flat_cell hf hr (show xs[i]? = some x by simpa using h) hy]
def tailE (k : Nat) : Se := ⟨none, 0, ⟨[], 78 + (k : Int), []⟩⟩
def tailSe (n : Nat) : List Se := (List.range n).map tailE
theorem tailSe_next (n : Nat) : tailSe n ++ [tailE n] = tailSe (n + 1) := by simp [tailSe, List.range_succ]
theorem tailSe_len (n : Nat) : (tailSe n).length = n := by simp [tailSe]
def rmV (x : Se) : Value := .slice x.a (x.e.vs.length + 34) (x.e.vs.length + 34)
abbrev VRm (x : Se) : A := VV x.a (x.e.vs.length + 34) (x.e.vs.length + 34) (roomV x.e.vs)
/-- Events with room behind their values and behind them, as they may be read. -/
def Given (h : Heap) (ia ra : Option Addr) (es : List Ev) : Prop :=
  ∃ xs : List Se, xs.map Se.e = es ∧ Sl h ia ((xs ++ tailSe 34).flatMap seV) ∧ Sl h ra (xs.map rmV) ∧ ∀ x ∈ xs, Sl h x.a ((roomV x.e.vs).flatMap valV) ∧ rngE x.e
theorem Given.ext (k : Given h ia ra es) (m : Ext h h1) : Given h1 ia ra es := by
  obtain ⟨xs, q1, q2, q3, q4⟩ := k
  exact ⟨xs, q1, q2.ext m, q3.ext m, fun x hx => ⟨(q4 x hx).1.ext m, (q4 x hx).2⟩⟩
theorem Given.ro (k : Given h ia ra es) : RoE none_ h ia es.length es := by
  obtain ⟨xs, q1, q2, q3, q4⟩ := k
  refine ⟨xs, ?_, fun x hx => ⟨(roomV_pre (q4 x hx).1).ro, rfl, (q4 x hx).2⟩, q1, rfl⟩
  rw [List.flatMap_append] at q2
  exact q2.ro.pre
theorem und49 : Tryd.prog.underlying 49 = some (.slice 25) := by kernel_rfl
theorem T49 : SlTy Tryd.prog 49 25 1 24 (.slice none 0 0) := ⟨und49, by kernel_rfl, rfl, by omega, by omega⟩
theorem made_evs (m : Nat) : (madeCells (Value.agg (seV noSe).toArray).cells (m * 3)).toList.take (m * 3) = (List.replicate m noSe).flatMap seV := by
  have h := made_rows (f := seV) (sz := 3) (fun _ => rfl) (by omega) noSe m
  have e : (Value.agg (seV noSe).toArray).cells = (seV noSe).toArray := rfl
  rw [e, h, List.take_of_length_le (by rw [flatMap_len (sz := 3) (fun _ => rfl), List.length_replicate]; omega)]
theorem all_room {xs : List Se} {x : Se} (k : St S h0 h (A.all (xs.map VRm) :: R)) (hx : x ∈ xs) : Sl h x.a ((roomV x.e.vs).flatMap valV) := by
  obtain ⟨F, hh, hf⟩ := k.own
  obtain ⟨F1, F2, k1, _⟩ := hh
  obtain ⟨F', k', _⟩ := Holds.get (show Holds (xs.map VRm) F1 h from k1) (List.mem_map_of_mem hx)
  exact k'.1.sl
theorem given_spec (he : RoE none_ h a l es) (hb : l ≤ 2932031007317) (hb2 : ∀ e ∈ es, e.vs.length ≤ 3518437208780) : CallsH Tryd.prog 27 #[.slice a l c] h
    (fun v h' => ∃ ia ra rc, v = .tuple #[.slice ia (l + 34) (l + 34), .slice ra l rc] ∧ Given h' ia ra es ∧ Ext h h') := by
  refine vf27 _ _ _ h _ ?_
  unfold F27
  have hl : es.length = l := by obtain ⟨_, _, _, _, e⟩ := he; exact e
  have hre : ∀ x ∈ es, rngE x := by
    obtain ⟨xs, q1, q2, q3, q4⟩ := he
    intro x hx
    rw [← q3] at hx
    obtain ⟨y, hy, rfl⟩ := List.mem_map.1 hx
    exact (q2 y hy).rng
  have ew : IntKind.i64.wrap ((l : Int) + 34) = ((l + 34 : Nat) : Int) := by rw [wrap_id (by omega) (by omega)]; omega
  rw [ew]
  refine (St.fresh h).make T22 (n := l + 34) (m := l + 34) rfl rfl (Nat.le_refl _) (by omega) fun a3 h2 k => ⟨_, _, _, rfl, ?_⟩
  rw [made_evs] at k
  refine ⟨fun n hh ra rl rc i => ∃ (j : Nat) (xs : List Se), i = j ∧ j ≤ l + 34 ∧ n = l + 34 - j ∧ rl = xs.length ∧ xs.length = min j l ∧ xs.map Se.e = es.take j ∧ St none_ h hh [A.vec 27 3 a3 (l + 34) (l + 34) ((xs ++ (tailSe (j - l) ++ List.replicate (l + 34 - j) noSe)).flatMap seV), A.vec 25 1 ra xs.length rc (xs.map rmV), A.all (xs.map VRm)],
    ⟨_, 0, [], rfl, by omega, rfl, rfl, by simp, by simp, ?_⟩, ?_⟩
  · have k := ((k.all0).vnil 25 (sz := 1) (by omega))
    have e : List.replicate (l + 34) noSe = [] ++ (tailSe (0 - l) ++ List.replicate (l + 34 - 0) noSe) := by simp [tailSe]
    rw [e] at k
    exact k.sel 3 [2, 0, 1] rfl (by decide) (by rfl)
  clear k
  rintro n hh _ ra _ rc _ ⟨j, xs, rfl, hj, rfl, rfl, hxl, hxe, k⟩
  refine cond_split (fun hc => ?_) (fun hc => ?_)
  rotate_left
  · have hjl : j = l + 34 := by
      have : ¬ (j : Int) < ((l + 34 : Nat) : Int) := of_decide_eq_false hc
      omega
    subst hjl
    have e1 : l + 34 - l = 34 := by omega
    have e2 : xs.length = l := by omega
    rw [e1, Nat.sub_self, List.replicate_zero, List.append_nil] at k
    rw [List.take_of_length_le (by omega)] at hxe
    rw [e2]
    refine ⟨a3, ra, rc, rfl, ⟨xs, hxe, k.sl (a := a3), k.drop.sl (a := ra), fun x hx => ⟨all_room k.drop.drop hx, hre _ ?_⟩⟩, k.ext⟩
    rw [← hxe]; exact List.mem_map_of_mem hx
  have hjl : j < l + 34 := Int.ofNat_lt.1 (of_decide_eq_true hc)
  clear hc
  refine ⟨fun h' ra rl rc => ∃ xs : List Se, rl = xs.length ∧ xs.length = min (j + 1) l ∧ xs.map Se.e = es.take (j + 1) ∧ St none_ h h' [A.vec 27 3 a3 (l + 34) (l + 34) ((xs ++ (tailSe (j + 1 - l) ++ List.replicate (l + 34 - (j + 1)) noSe)).flatMap seV), A.vec 25 1 ra xs.length rc (xs.map rmV), A.all (xs.map VRm)], ?_, ?_⟩
  rotate_left
  · rintro h' _ ra' _ rc' ⟨xs', rfl, q1, q2, k⟩
    exact ⟨_, by omega, j + 1, xs', wrap_nat hjl (by omega), hjl, rfl, rfl, q1, q2, k⟩
  have hrep : l + 34 - j = l + 34 - (j + 1) + 1 := by omega
  have hpre : (xs ++ tailSe (j - l)).length = j := by rw [List.length_append, hxl, tailSe_len]; omega
  have hcont : xs ++ (tailSe (j - l) ++ List.replicate (l + 34 - j) noSe) = (xs ++ tailSe (j - l)) ++ noSe :: List.replicate (l + 34 - (j + 1)) noSe := by
    rw [hrep, List.replicate_succ, List.append_assoc]
  rw [hcont] at k
  have hat : ((xs ++ tailSe (j - l)) ++ noSe :: List.replicate (l + 34 - (j + 1)) noSe)[j]? = some noSe := by
    rw [List.getElem?_append_right (by omega), hpre, Nat.sub_self]; rfl
  have hset : ∀ y : Se, ((xs ++ tailSe (j - l)) ++ noSe :: List.replicate (l + 34 - (j + 1)) noSe).set j y = (xs ++ tailSe (j - l)) ++ y :: List.replicate (l + 34 - (j + 1)) noSe := fun y => by
    rw [List.set_append_right _ _ (by omega), hpre, Nat.sub_self]; rfl
  have hlen : ∀ y : Se, ((xs ++ tailSe (j - l)) ++ y :: List.replicate (l + 34 - (j + 1)) noSe).length = l + 34 := fun y => by
    rw [List.length_append, hpre, List.length_cons, List.length_replicate]; omega
  refine k.vix hjl fun g o ha => ?_
  subst ha
  have et : IntKind.i64.wrap (IntKind.i64.wrap (78 + (j : Int)) - (l : Int)) = 78 + (j : Int) - (l : Int) := by rw [wrap_id (n := 78 + (j : Int)) (by omega) (by omega), wrap_id (by omega) (by omega)]
  rw [et]
  refine St.vcell (r := j * 3 + 1) k (by omega) fun h13 k => ?_
  rw [flat_cell (sz := 3) (fun _ => rfl) (by omega) (y := ⟨none, 0, ⟨[], 78 + (j : Int) - (l : Int), []⟩⟩) hat rfl, hset] at k
  refine cond_split (fun hc => ?_) (fun hc => ?_)
  rotate_left
  · have hjn : l ≤ j := by
      have : ¬ (j : Int) < l := of_decide_eq_false hc
      omega
    have em : (⟨none, 0, ⟨[], 78 + (j : Int) - (l : Int), []⟩⟩ : Se) = tailE (j - l) := by
      unfold tailE
      congr 2; omega
    rw [em] at k
    have e2 : (xs ++ tailSe (j - l)) ++ tailE (j - l) :: List.replicate (l + 34 - (j + 1)) noSe = xs ++ (tailSe (j + 1 - l) ++ List.replicate (l + 34 - (j + 1)) noSe) := by
      rw [show j + 1 - l = (j - l) + 1 by omega, ← tailSe_next]
      simp only [List.append_assoc, List.singleton_append]
    rw [e2] at k
    refine ⟨xs, rfl, by omega, ?_, k⟩
    rw [hxe, List.take_of_length_le (by omega), List.take_of_length_le (by omega)]
  have hjn : j < l := Int.ofNat_lt.1 (of_decide_eq_true hc)
  clear hc
  refine he.old k.ext (by omega) (by omega) fun ad x hx c0 c1 c3 kx => ⟨_, c0, _, c1, _, _, _, c3, ?_⟩
  rw [Int.toNat_natCast] at hx
  have hxb := hb2 _ (List.mem_of_getElem? hx)
  refine CallsH.mono (wide_spec (kx.in k) hxb) ?_
  rintro _ h19 ⟨a', rfl, k2⟩
  have k := k.add1 k2
  refine ⟨_, _, _, _, _, _, _, _, rfl, k.vnew fun b24 h25 k => k.vall (by rfl) (by rfl) fun h26 k => ⟨_, k.rd (by rfl), _, k.rd (by rfl), _, _, _, k.rd (by rfl), ?_⟩⟩
  have k := k.pull2
  refine k.vix hjl fun g o ha => ?_
  cases ha
  refine St.vrow (f := seV) (fun _ => rfl) (y := ⟨a', x.e.vs.length + 34, x.e⟩) k (hlen _) hjl (oneC_se _) fun h31 k => ?_
  have hset2 : ∀ y z : Se, ((xs ++ tailSe (j - l)) ++ y :: List.replicate (l + 34 - (j + 1)) noSe).set j z = (xs ++ tailSe (j - l)) ++ z :: List.replicate (l + 34 - (j + 1)) noSe := fun y z => by
    rw [List.set_append_right _ _ (by omega), hpre, Nat.sub_self]; rfl
  rw [hset2] at k
  refine k.vnew fun b32 h33 k => ?_
  have hsl : Sl h33 (some ⟨b32, 0, none⟩) [rmV ⟨a', x.e.vs.length + 34, x.e⟩] := k.slB (b := b32)
  refine k.pull4.app T49 und49 (by simp) (Src.slice hsl rfl) (by simp [rmV, oneC]) (by omega) fun a36 c36 h35 k => ⟨_, _, _, rfl, ?_⟩
  refine ⟨xs ++ [(⟨a', x.e.vs.length + 34, x.e⟩ : Se)], by simp, by simp; omega, ?_, ?_⟩
  · rw [List.map_append, hxe, take_next hx]; rfl
  have k := k.sel 6 [4, 5, 2, 0, 1, 3] rfl (by decide) (L' := [VRm ⟨a', x.e.vs.length + 34, x.e⟩, A.all (xs.map VRm), _, _, _, _]) (by rfl)
  have k := (k.allIn).allPerm (L' := (xs ++ [(⟨a', x.e.vs.length + 34, x.e⟩ : Se)]).map VRm) (by rw [List.map_append]; exact (List.perm_append_singleton _ _).symm)
  have k := (k.sel 5 [1, 2, 0, 3, 4] rfl (by decide) (L' := [_, _, _, _, _]) (by rfl)).only3
  have ej : tailSe (j - l) = [] := by rw [show j - l = 0 by omega]; rfl
  have ej2 : tailSe (j + 1 - l) = [] := by rw [show j + 1 - l = 0 by omega]; rfl
  have e2 : (xs ++ tailSe (j - l)) ++ (⟨a', x.e.vs.length + 34, x.e⟩ : Se) :: List.replicate (l + 34 - (j + 1)) noSe = (xs ++ [(⟨a', x.e.vs.length + 34, x.e⟩ : Se)]) ++ (tailSe (j + 1 - l) ++ List.replicate (l + 34 - (j + 1)) noSe) := by
    rw [ej, ej2]; simp
  rw [e2] at k
  have e3 : xs.map rmV ++ [rmV ⟨a', x.e.vs.length + 34, x.e⟩] = (xs ++ [(⟨a', x.e.vs.length + 34, x.e⟩ : Se)]).map rmV := by rw [List.map_append]; rfl
  rw [e3] at k
  rw [List.length_append]
  exact k
theorem stands_spec {rc : Nat} (hg : Given h ia ra es) (he : RoE none_ h a l es) (hb : l ≤ 2932031007317) (hb2 : ∀ e ∈ es, e.vs.length ≤ 3518437208780) : CallsH Tryd.prog 30 #[.slice ia (l + 34 : Nat) (l + 34 : Nat), .slice ra l rc, .slice a l c] h (fun v h' => v = .bool true ∧ Ext h h') := by
  refine vf30 _ _ _ _ _ _ _ _ _ h _ ?_
  unfold F30
  have hl : es.length = l := by obtain ⟨_, _, _, _, e⟩ := he; exact e
  have ew : IntKind.i64.wrap ((l : Int) + 34) = ((l + 34 : Nat) : Int) := by rw [wrap_id (by omega) (by omega)]; omega
  rw [ew]
  refine cond_false (by simp) (cond_false (by simp) (whole_cut (lo := 0) (by omega) ?_))
  have hro := hg.ro
  rw [hl] at hro
  refine CallsH.mono (lists_spec hro he (by omega) (fun e h => by have := hb2 e h; omega)) ?_
  rintro _ h3 ⟨rfl, m⟩
  refine ⟨_, rfl, cond_false (by simp) ?_⟩
  refine ⟨fun n hh _ i => ∃ j : Nat, i = j ∧ j ≤ l + 34 ∧ n = l + 34 - j ∧ Ext h hh, ⟨_, 0, rfl, by omega, rfl, m⟩, ?_⟩
  clear m
  rintro n hh _ _ i ⟨j, rfl, hj, rfl, m⟩
  refine cond_split (fun hc => ?_) (fun hc => ⟨rfl, m⟩)
  have hjl : j < l + 34 := Int.ofNat_lt.1 (of_decide_eq_true hc)
  clear hc
  obtain ⟨xs, q1, q2, q3, q4⟩ := hg.ext m
  have hxl : xs.length = l := by rw [← hl, ← q1, List.length_map]
  have hnext : ∀ {h' : Heap}, Ext h h' → ∃ m', m' < l + 34 - j ∧ ∃ j' : Nat, IntKind.i64.wrap ((j : Int) + 1) = (j' : Int) ∧ j' ≤ l + 34 ∧ m' = l + 34 - j' ∧ Ext h h' := fun m => ⟨_, by omega, j + 1, wrap_nat hjl (by omega), hjl, rfl, m⟩
  refine cond_split (fun hc => ?_) (fun hc => ?_)
  · have hjn : j < l := Int.ofNat_lt.1 (of_decide_eq_true hc)
    refine q3.one (f := rmV) hxl (by omega) (by omega) fun ad x hx hcx => ⟨_, _, _, hcx, ?_⟩
    rw [Int.toNat_natCast] at hx
    have hxm := List.mem_of_getElem? hx
    refine (he.ext m).one (by omega) (by omega) fun ad y hy d0 d1 d3 ky => ⟨_, d0, _, d1, _, _, _, d3, ?_⟩
    rw [Int.toNat_natCast] at hy
    have hyx : y.e = x.e := by
      have h1 : es[j]? = some x.e := by rw [← q1, List.getElem?_map, hx]; rfl
      rw [hy] at h1
      exact Option.some.inj h1
    have hyb := hb2 _ (List.mem_of_getElem? hy)
    rw [hyx] at ky hyb ⊢
    refine CallsH.mono (tight_spec (e := x.e) (b := x.a) (q4 x hxm).1 ky (Nat.le_refl _) hyb) ?_
    rintro _ h19 ⟨rfl, m2⟩
    refine ⟨_, rfl, cond_false rfl (cond_false (decide_eq_false (by omega)) (hnext (m.then m2)))⟩
  · have hjn : l ≤ j := by
      have : ¬ (j : Int) < l := of_decide_eq_false hc
      omega
    refine cond_true (decide_eq_true (by omega)) ?_
    refine q2.row (f := seV) (fun _ => rfl) (by omega) (show (xs ++ tailSe 34).length = l + 34 by rw [List.length_append, hxl, tailSe_len]) (by omega) (by omega) fun ad x hx hc4 => ?_
    rw [Int.toNat_natCast, List.getElem?_append_right (by omega), hxl] at hx
    have hx : x = tailE (j - l) := by
      unfold tailSe at hx
      rw [List.getElem?_map, List.getElem?_range (by omega)] at hx
      exact (Option.some.inj hx).symm
    subst hx
    refine ⟨_, hc4 0 _ rfl, _, hc4 1 _ rfl, _, _, _, hc4 2 _ rfl, ?_⟩
    have et : IntKind.i64.wrap (IntKind.i64.wrap (78 + (j : Int)) - (l : Int)) = 78 + (((j - l : Nat)) : Int) := by rw [wrap_id (n := 78 + (j : Int)) (by omega) (by omega), wrap_id (by omega) (by omega)]; omega
    rw [et]
    refine CallsH.mono (events_spec (e := (tailE (j - l)).e) (f := ⟨[], 78 + (((j - l : Nat)) : Int), []⟩) (a := none) (b := none) (Sl.nil _ _) rfl (Sl.nil _ _) rfl (by show 0 < _; omega)) ?_
    rintro _ h26 ⟨rfl, m2⟩
    exact ⟨_, rfl, cond_false (by unfold tailE; simp) (hnext (m.then m2))⟩
/-! ### Batches -/
structure Sb where
  a : Option Addr
  l : Nat
  c : Nat
  es : List Ev
def sbV (s : Sb) : Value := .slice s.a s.l s.c
/-- Lists of events that others hold. -/
def RoB (h : Heap) (a : Option Addr) (l : Nat) (ess : List (List Ev)) : Prop :=
  ∃ xs : List Sb, Sl h a (xs.map sbV) ∧ (∀ x ∈ xs, RoE none_ h x.a x.l x.es) ∧ xs.map Sb.es = ess ∧ ess.length = l
variable {ess : List (List Ev)}
theorem RoB.ext (k : RoB h0 a l ess) (m : Ext h0 h) : RoB h a l ess := by
  obtain ⟨xs, q1, q2, q3, q4⟩ := k
  exact ⟨xs, q1.ext m, fun x hx => (q2 x hx).ext m, q3, q4⟩
theorem RoB.one (k : RoB h a l ess) {i : Int} {K : Addr → Prop} (h0 : 0 ≤ i) (hi : i < l)
    (q : ∀ ad (x : Sb), ess[i.toNat]? = some x.es → cellH h ad = some (sbV x) → RoE none_ h x.a x.l x.es → x.es.length = x.l → K ad) : VIdx a l i 1 K := by
  obtain ⟨xs, q1, q2, q3, q4⟩ := k
  have hl : xs.length = l := by rw [← q4, ← q3, List.length_map]
  refine q1.one hl h0 hi fun ad x hx hc => q ad x ?_ hc (q2 x (List.mem_of_getElem? hx)) ?_
  · rw [← q3, List.getElem?_map, hx]; rfl
  · obtain ⟨_, _, _, _, e⟩ := q2 x (List.mem_of_getElem? hx)
    exact e
theorem wireBatches_spec (hw : Wd none_ h) (he : RoB h a l ess) (hr : RoL none_ h b l2 bss) (hb : l ≤ 140737488351232) (hb1 : ∀ es ∈ ess, es.length ≤ 2932031007317 ∧ ∀ e ∈ es, e.vs.length ≤ 3518437208780) (hb2 : Lim bss 140737488351233) :
    CallsH Tryd.prog 6 #[.slice a l c, .slice b l2 c2] h (fun v h' => v = .bool true ∧ Ext h h') := by
  refine vf6 _ _ _ _ _ _ h _ ?_
  unfold F6
  refine CallsH.mono (begun_spec hw) ?_
  rintro _ h2 ⟨rfl, m⟩
  refine ⟨_, rfl, cond_false rfl ?_⟩
  refine ⟨fun n hh _ i => ∃ j : Nat, i = j ∧ j ≤ l ∧ n = l - j ∧ Ext h hh, ⟨_, 0, rfl, by omega, rfl, m⟩, ?_⟩
  clear m
  rintro n hh _ _ i ⟨j, rfl, hj, rfl, m⟩
  refine cond_split (fun hc => ?_) (fun hc => ?_)
  · have hjl : j < l := Int.ofNat_lt.1 (of_decide_eq_true hc)
    refine (he.ext m).one (by omega) (by omega) fun ad x hx hcx kx hxl => ⟨_, _, _, hcx, ?_⟩
    rw [Int.toNat_natCast] at hx
    obtain ⟨hb3, hb4⟩ := hb1 _ (List.mem_of_getElem? hx)
    refine CallsH.mono (given_spec kx (by omega) hb4) ?_
    rintro _ h14 ⟨ia, ra, rc, rfl, hg, m2⟩
    have m2 := m.then m2
    refine ⟨_, _, _, _, _, _, rfl, (he.ext m2).one (by omega) (by omega) fun ad y hy hcy ky hyl => ⟨_, _, _, hcy, ?_⟩⟩
    rw [Int.toNat_natCast, hx] at hy
    have hy := Option.some.inj hy
    have hyl2 : y.l = x.l := by rw [← hyl, ← hxl, hy]
    rw [hyl2]
    have hro := hg.ro
    rw [hxl] at hro
    refine whole_cut (lo := 0) (by omega) ?_
    refine CallsH.mono (pack_spec (hw.sl.ext m2).ro hro (fun e he => by have := hb4 e he; omega)) ?_
    rintro _ h21 ⟨a22, c22, rfl, k⟩
    have m3 := m2.then k.ext
    refine ⟨_, _, _, _, rfl, (he.ext m3).one (by omega) (by omega) fun ad z hz hcz kz hzl => ⟨_, _, _, hcz, ?_⟩⟩
    rw [Int.toNat_natCast, hx] at hz
    have hz := Option.some.inj hz
    rw [← hz] at kz
    refine CallsH.mono (rpack_spec kz (fun e he => by have := hb4 e he; omega)) ?_
    rintro _ h27 ⟨a28, c28, rfl, k2⟩
    have k := k.add1 k2
    have m4 := m3.then k2.ext
    refine ⟨_, _, _, _, rfl, cond_false (by simp) ?_⟩
    refine CallsH.mono (same_spec (k.sl (a := a22)) rfl (k.sl (a := a28)) rfl (by have := packR_len x.es; omega)) ?_
    rintro _ _ ⟨rfl, rfl⟩
    refine ⟨_, rfl, cond_false (by simp) ((he.ext m4).one (by omega) (by omega) fun ad w hw2 hcw kw hwl => ⟨_, _, _, hcw, ?_⟩)⟩
    rw [Int.toNat_natCast, hx] at hw2
    have hw2 := Option.some.inj hw2
    have hwl2 : w.l = x.l := by rw [← hwl, ← hxl, hw2]
    rw [← hw2, hwl2] at kw
    rw [hwl2]
    refine CallsH.mono (stands_spec (hg.ext (k.ext)) kw (by omega) hb4) ?_
    rintro _ h36 ⟨rfl, m5⟩
    exact ⟨_, rfl, cond_false rfl ⟨_, by omega, j + 1, wrap_nat hjl (by omega), hjl, rfl, m4.then m5⟩⟩
  clear hj hc
  refine ⟨fun n hh _ i => ∃ j : Nat, i = j ∧ j ≤ l2 ∧ n = l2 - j ∧ Ext h hh, ⟨_, 0, rfl, by omega, rfl, m⟩, ?_⟩
  clear m
  rintro n hh _ _ i ⟨j, rfl, hj, rfl, m⟩
  have htl := hb2.1
  have hl2 : bss.length = l2 := by obtain ⟨_, _, _, _, e⟩ := hr; exact e
  refine cond_split (fun hc => ?_) (fun hc => ⟨rfl, m⟩)
  have hjl : j < l2 := Int.ofNat_lt.1 (of_decide_eq_true hc)
  refine (hr.ext m).one (by omega) (by omega) fun ad x hx hcx r1 r2 r3 => ⟨_, _, _, hcx, ?_⟩
  rw [Int.toNat_natCast] at hx
  have htx := hb2.get hx
  refine CallsH.mono (roomy_spec r1.sl r2 (by omega)) ?_
  rintro _ h34 ⟨a35, rfl, k⟩
  have m2 := m.then k.ext
  refine ⟨_, _, _, rfl, (hr.ext m2).one (by omega) (by omega) fun ad y hy hcy s1 s2 s3 => ⟨_, _, _, hcy, ?_⟩⟩
  rw [Int.toNat_natCast, hx] at hy
  have hy := Option.some.inj hy
  have hyl : y.l = x.l := by rw [← s2, ← r2, hy]
  rw [hyl]
  refine whole_cut (lo := 0) (by omega) ?_
  refine CallsH.mono (unpack_spec (hw.sl.ext m2).ro (roomB_pre (k.sl (a := a35))) r2 (by omega)) ?_
  rintro _ h54 ⟨a55, c55, rfl, k2⟩
  have k := k.add1 k2
  have m3 := m2.then k2.ext
  refine ⟨_, _, _, _, rfl, (hr.ext m3).one (by omega) (by omega) fun ad z hz hcz t1 t2 t3 => ⟨_, _, _, hcz, ?_⟩⟩
  rw [Int.toNat_natCast, hx] at hz
  have hz := Option.some.inj hz
  refine CallsH.mono (runpack_spec t1.sl t2 t3) ?_
  rintro _ h60 ⟨a61, c61, rfl, k3⟩
  rw [← hz] at k3 ⊢
  have k := k.add1 k3
  have m4 := m3.then k3.ext
  refine ⟨_, _, _, _, rfl, cond_false (by simp) ?_⟩
  have hrng : ∀ e ∈ (unpackR x.bs).1, rngE e := fun e he => (unpack_rng e he).2
  have hl61 := LE.len k
  have hl55 := LE.len k.pull1
  refine CallsH.mono (lists_spec (LE.ro k.pull1 hrng) (LE.ro k hrng) (by have := unpack_len x.bs; omega) (fun e he => by have := okE_len (unpack_rng e he); omega)) ?_
  rintro _ h64 ⟨rfl, m5⟩
  have k := k.next m5
  have m4 := m4.then m5
  refine ⟨_, rfl, cond_false (by simp) ((hr.ext m4).one (by omega) (by omega) fun ad w hw2 hcw u1 u2 u3 => ⟨_, _, _, hcw, ?_⟩)⟩
  rw [Int.toNat_natCast, hx] at hw2
  have hw2 := Option.some.inj hw2
  have hwl : w.l = x.l := by rw [← u2, ← r2, hw2]
  refine CallsH.mono (roomy_spec u1.sl u2 (by omega)) ?_
  rintro _ h54 ⟨a55, rfl, k2⟩
  have k := k.add1 k2
  refine ⟨_, _, _, rfl, ?_⟩
  refine CallsH.mono (same_spec (k.sl (a := a35)) (by rw [roomB_len, r2]) (k.sl (a := a55)) (by rw [roomB_len, u2]) (by omega)) ?_
  rintro _ _ ⟨rfl, rfl⟩
  refine ⟨_, rfl, cond_false (by rw [hw2]; simp) ⟨_, by omega, j + 1, wrap_nat hjl (by omega), hjl, rfl, m4.then k2.ext⟩⟩
end Go.Proofs.YtofaihacmoacjaaDoor.F
