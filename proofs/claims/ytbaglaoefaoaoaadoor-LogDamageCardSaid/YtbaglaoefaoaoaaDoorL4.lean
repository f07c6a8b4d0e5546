/- Lists of rows over; a disk's twin; a write that gets down. Conditions: none. -/
import Derived.Test.YtbaglaoefaoaoaaDoorL3
namespace Go.Proofs.YtbaglaoefaoaoaaDoor.F
open Go Go.VC Go.Proofs
set_option linter.unusedSimpArgs false
set_option linter.unusedVariables false
set_option maxRecDepth 100000
attribute [local irreducible] CallsH RunsTo PureTo

def tot (bss : List (List UInt8)) : Nat := (bss.map fun b => b.length + 1).sum
theorem tot_cons (b : List UInt8) (bss : List (List UInt8)) : tot (b :: bss) = b.length + 1 + tot bss := rfl
theorem tot_len : ∀ bss : List (List UInt8), bss.length ≤ tot bss
  | [] => by simp
  | b :: bss => by have := tot_len bss; rw [tot_cons, List.length_cons]; omega
theorem tot_mem : ∀ {bss : List (List UInt8)} {b : List UInt8}, b ∈ bss → b.length + 1 ≤ tot bss
  | x :: bss, b, hb => by
    rw [tot_cons]
    rcases List.mem_cons.1 hb with rfl | hb
    · omega
    · have := tot_mem hb; omega
theorem tot_app (x y : List (List UInt8)) : tot (x ++ y) = tot x + tot y := by simp [tot]
theorem tot_take (x : List (List UInt8)) (n : Nat) : tot (x.take n) ≤ tot x := by
  have := tot_app (x.take n) (x.drop n)
  rw [List.take_append_drop] at this; omega
theorem tot_drop (x : List (List UInt8)) (n : Nat) : tot (x.drop n) ≤ tot x := by
  have := tot_app (x.take n) (x.drop n)
  rw [List.take_append_drop] at this; omega
theorem tot_get {bss : List (List UInt8)} {i : Nat} {b : List UInt8} (h : bss[i]? = some b) : b.length + 1 ≤ tot bss := tot_mem (List.mem_of_getElem? h)
theorem take_next {α : Type} {xs : List α} {j : Nat} {x : α} (h : xs[j]? = some x) : xs.take (j + 1) = xs.take j ++ [x] := by rw [List.take_add_one, h]; rfl
variable {S F G : Nat → Prop} {h0 h h1 : Heap} {L R L' : List A} {a : Option Addr} {l c : Nat} {bs : List UInt8} {bss : List (List UInt8)}
theorem rclone_spec (hs : RoL none_ h a l bss) (hb : tot bss ≤ 1099511627776) : CallsH Tryd.prog 48 #[.slice a l c] h (fun v h' => ∃ a' c', v = .slice a' l c' ∧ St none_ h h' [LV a' l c' bss]) := by
  refine vf48 _ _ _ h _ ?_
  unfold F48
  refine ⟨fun n hh m lm cm i => ∃ j : Nat, i = j ∧ j ≤ l ∧ n = l - j ∧ j = lm ∧ St none_ h hh [LV m j cm (bss.take j)], ⟨_, 0, rfl, by omega, rfl, rfl, (St.fresh h).lnil⟩, ?_⟩
  rintro n hh _ m lm cm i ⟨j, rfl, hj, rfl, rfl, k⟩
  have hlen : bss.length = l := by obtain ⟨_, _, _, _, e⟩ := hs; exact e
  have htl := tot_len bss
  refine cond_split (fun hc => ?_) (fun hc => ?_)
  · have hjl : j < l := Int.ofNat_lt.1 (of_decide_eq_true hc)
    refine (hs.in k).one (by omega) (by omega) fun ad x hx hcell hro hxl hxc => ⟨_, _, _, hcell, ?_⟩
    rw [Int.toNat_natCast] at hx
    have htx := tot_get hx
    refine (k.vnil 5 (sz := 1) (by omega)).app T26 und26 (by simp) (Src.slice hro.sl (by rw [bytesV_len, hxl, Nat.mul_one])) (oneC_bytes _) (by omega) fun a2 c2 h2 k => ⟨_, _, _, rfl, k.vnew fun b h3 k => ?_⟩
    refine LV.push (x := ⟨a2, 0 + x.l, c2, x.bs⟩) k (by omega) fun a3 c3 h4 k => ⟨_, _, _, rfl, _, ?_, j + 1, wrap_nat hjl (by omega), hjl, rfl, rfl, ?_⟩
    · omega
    · rw [take_next hx]; exact k
  · have hjl : j = l := by
      have : ¬ (j : Int) < l := of_decide_eq_false hc
      omega
    subst hjl
    rw [List.take_of_length_le (by omega)] at k
    exact ⟨_, _, rfl, k⟩
theorem over_spec (hs : RoL none_ h a l bss) (hb : tot bss ≤ 1099511627776) : CallsH Tryd.prog 40 #[.slice a l c] h (fun v h' => ∃ a' c', v = .slice a' l c' ∧ St none_ h h' [LV a' l c' bss]) := by
  refine vf40 _ _ _ h _ ?_
  unfold F40
  refine ⟨fun n hh m lm cm i => ∃ j : Nat, i = j ∧ j ≤ l ∧ n = l - j ∧ j = lm ∧ St none_ h hh [LV m j cm (bss.take j)], ⟨_, 0, rfl, by omega, rfl, rfl, (St.fresh h).lnil⟩, ?_⟩
  rintro n hh _ m lm cm i ⟨j, rfl, hj, rfl, rfl, k⟩
  have hlen : bss.length = l := by obtain ⟨_, _, _, _, e⟩ := hs; exact e
  have htl := tot_len bss
  refine cond_split (fun hc => ?_) (fun hc => ?_)
  · have hjl : j < l := Int.ofNat_lt.1 (of_decide_eq_true hc)
    refine (hs.in k).one (by omega) (by omega) fun ad x hx hcell hro hxl hxc => ⟨_, _, _, hcell, ?_⟩
    rw [Int.toNat_natCast] at hx
    have htx := tot_get hx
    refine (k.vnil 5 (sz := 1) (by omega)).app T26 und26 (by simp) (Src.slice hro.sl (by rw [bytesV_len, hxl, Nat.mul_one])) (oneC_bytes _) (by omega) fun a2 c2 h2 k => ⟨_, _, _, rfl, k.vnew fun b h3 k => ?_⟩
    refine LV.push (x := ⟨a2, 0 + x.l, c2, x.bs⟩) k (by omega) fun a3 c3 h4 k => ⟨_, _, _, rfl, _, ?_, j + 1, wrap_nat hjl (by omega), hjl, rfl, rfl, ?_⟩
    · omega
    · rw [take_next hx]; exact k
  · have hjl : j = l := by
      have : ¬ (j : Int) < l := of_decide_eq_false hc
      omega
    subst hjl
    rw [List.take_of_length_le (by omega)] at k
    exact ⟨_, _, rfl, k⟩
theorem twin_spec {p : Addr} (hp : cellH h p = some (.slice a l c)) (hs : RoL none_ h a l bss) (hb : tot bss ≤ 1099511627776) :
    CallsH Tryd.prog 37 #[.pointer (some p)] h (fun v h' => ∃ q a' c', v = .pointer (some ⟨q, 0, none⟩) ∧ St none_ h h' [A.blk q #[.slice a' l c'] 75, LV a' l c' bss]) := by
  refine vf37 _ h _ ?_
  unfold F37
  have k := St.fresh h
  refine k.vnew fun q h1 k => VSome.mk ⟨_, _, _, cellH_mod hp k.ext id, ?_⟩
  refine ⟨fun n hh i => ∃ (j : Nat) (m : Option Addr) (cm : Nat), i = j ∧ j ≤ l ∧ n = l - j ∧ St none_ h hh [A.blk q #[.slice m j cm] 75, LV m j cm (bss.take j)], ⟨_, 0, _, _, rfl, by omega, rfl, k.lnil.pull1⟩, ?_⟩
  clear k
  rintro n hh _ i ⟨j, m, cm, rfl, hj, rfl, k⟩
  have hlen : bss.length = l := by obtain ⟨_, _, _, _, e⟩ := hs; exact e
  have htl := tot_len bss
  refine cond_split (fun hc => ?_) (fun hc => ?_)
  · have hjl : j < l := Int.ofNat_lt.1 (of_decide_eq_true hc)
    refine (hs.in k).one (by omega) (by omega) fun ad x hx hcell hro hxl hxc => ⟨_, _, _, hcell, _, _, _, k.rd (by rfl), ?_⟩
    rw [Int.toNat_natCast] at hx
    have htx := tot_get hx
    refine CallsH.mono (clone_spec hro.sl hxl (by omega)) ?_
    rintro _ h2 ⟨a2, c2, rfl, k1⟩
    have k := k.add1 k1
    refine ⟨_, _, _, rfl, k.rd (by rfl), k.vnew fun b h3 k => ⟨k.rd (by rfl), ?_⟩⟩
    refine LV.push (x := ⟨a2, x.l, c2, x.bs⟩) k.pull3.pull2.pull2 (by omega) fun a3 c3 h4 k => ⟨_, _, _, rfl, ?_⟩
    refine k.vst (by simp) fun h5 k => ?_
    refine ⟨_, ?_, j + 1, a3, c3, wrap_nat hjl (by omega), hjl, rfl, ?_⟩
    · omega
    · rw [take_next hx]; exact k.pull1
  · have hjl : j = l := by
      have : ¬ (j : Int) < l := of_decide_eq_false hc
      omega
    subst hjl
    rw [List.take_of_length_le (by omega)] at k
    exact ⟨_, _, _, rfl, k⟩
/-- A list over, of the same rows. -/
theorem clones_spec (k : Holds [LV a l c bss] F h) (hb : tot bss ≤ 1099511627776) : CallsH Tryd.prog 47 #[.slice a l c] h (fun v h' => ∃ a' c', v = .slice a' l c' ∧ St F h h' [LV a' l c' bss]) := by
  refine vf47 _ _ _ h _ ?_
  unfold F47
  have k := St.start k
  have hlen := LV.len k
  have htl := tot_len bss
  refine cond_split (fun hc => ?_) (fun hc => ?_)
  · have hbs : bss = [] := by
      cases bss with
      | nil => rfl
      | cons b r =>
        obtain ⟨xs, q1, _, q3, q4⟩ := k.roL (a := a)
        cases xs with
        | nil => simp at q3
        | cons x xs =>
          obtain ⟨ad, h0, _⟩ := q1 0 (sgV x) rfl
          subst h0; cases hc
    subst hbs
    have : l = 0 := by simpa using hlen.1.symm
    subst this
    exact ⟨_, _, rfl, k.drop.lnil⟩
  · refine k.vnew fun b h1 k => ?_
    have k := k.blkvec (sz := 1) (n := 0) rfl (by omega) (by omega)
    obtain ⟨xs, rfl, w⟩ := LV.open k.pull1
    have hw := w.sl (a := a)
    refine w.pull2.app T25 und25 (by simp) (Src.slice hw (by rw [Nat.mul_one, ← hlen.1, List.length_map, List.length_map])) (oneC_sg _) (by omega) fun a2 c2 h' k => ⟨_, _, _, rfl, a2, c2, by rw [Nat.zero_add], ?_⟩
    rw [Nat.zero_add] at k
    exact LV.close rfl k.pull1.drop

/-! ### A write gets down -/
def getS (bss : List (List UInt8)) (seg at_ : Nat) (b : List UInt8) (n : Nat) : List (List UInt8) :=
  if n = 0 then bss else bss.take seg ++ [(bss.getD seg []).take at_ ++ b.take n]
theorem getD_len_tot (bss : List (List UInt8)) (seg : Nat) : (bss.getD seg []).length ≤ tot bss := by
  rw [List.getD_eq_getElem?_getD]
  cases h : bss[seg]? with
  | none => simp
  | some b => have := tot_get h; simp; omega
theorem LV.last {xs : List UInt8} (k : St S h0 h (LV a (l + 1) c (bss ++ [xs]) :: R)) : ∃ (ys : List Sg) (y : Sg), ys.map Sg.bs = bss ∧ y.bs = xs ∧ ys.length = l ∧ St S h0 h (A.vec 26 1 a (l + 1) c ((ys ++ [y]).map sgV) :: BS y :: A.all (ys.map BS) :: R) := by
  have hlen := LV.len k
  obtain ⟨zs, he, w⟩ := LV.open k
  have hz : zs ≠ [] := by intro h; subst h; simp at he
  obtain ⟨ys, y, rfl⟩ : ∃ ys y, zs = ys ++ [y] := ⟨zs.dropLast, zs.getLast hz, (List.dropLast_concat_getLast hz).symm⟩
  rw [List.map_append, List.map_cons, List.map_nil] at he
  obtain ⟨e1, e2⟩ := List.append_inj' he rfl
  refine ⟨ys, y, e1, by simpa using e2, ?_, ?_⟩
  · have := hlen.1; rw [List.length_append, ← e1, List.length_map] at this; simpa using this
  · have w := w.pull1
    rw [List.map_append, List.map_cons, List.map_nil] at w
    have w := (w.allPerm (List.perm_append_singleton _ _)).allOut
    exact w.pull2
theorem LV.mklast {ys : List Sg} {y : Sg} (k : St S h0 h (A.vec 26 1 a l c ((ys ++ [y]).map sgV) :: BS y :: A.all (ys.map BS) :: R)) : St S h0 h (LV a l c (ys.map Sg.bs ++ [y.bs]) :: R) := by
  refine LV.close (xs := ys ++ [y]) (by simp) ?_
  have w := (k.pull2.pull2.allIn).allPerm (L' := (ys ++ [y]).map BS) (by rw [List.map_append]; exact (List.perm_append_singleton _ _).symm)
  exact w.pull1
/-- A cell of a slice that is held is written. -/
theorem _root_.Go.VC.St.vset {P : Program} {e g o i : Nat} {vs : List Value} {v : Value} (k : St S h0 h (A.vec e 1 (some ⟨g, o, none⟩) l c vs :: R)) (hi : i < l) {K : Heap → Prop}
    (q : ∀ h', St S h0 h' (A.vec e 1 (some ⟨g, o, none⟩) l c (vs.set i v) :: R) → K h') : VStore h ⟨g, o + i, none⟩ v K := by
  obtain ⟨F, G, k1, kG, d, hf, back⟩ := k.frameA
  obtain ⟨hv, hF, hs, hc⟩ := k1.one
  rcases hv.room with h00 | ⟨g', o', cur, e1, hB, hsz⟩
  · have := hv.le; omega
  · cases e1
    have hle := hv.le
    have hlen := hv.len
    rw [Nat.mul_one] at hlen hsz
    refine VStore.mk hB (by omega) fun h1 hB1 m s => q h1 (back ⟨m.mono fun b hb => by subst hb; exact .inl ((hF _).2 ⟨by omega, rfl⟩), F, .mk1 ⟨⟨by rw [List.length_set, hlen, Nat.mul_one], hle, ?_, .inr ⟨g, o, _, rfl, hB1, by simpa using hsz⟩⟩, hF, hs, hc⟩, fun b hb => .inl hb⟩)
    refine hB1.sl o fun j u hj => ?_
    rw [List.getElem?_set] at hj
    rw [Array.getElem?_setIfInBounds]
    by_cases e2 : i = j
    · subst e2
      rw [if_pos rfl, if_pos (by omega)] at hj
      rw [if_pos rfl, if_pos (by omega)]; exact hj
    · rw [if_neg e2] at hj
      rw [if_neg (by omega)]
      exact hv.at hB j u hj
theorem _root_.Go.VC.St.vaddr {e sz : Nat} {vs : List Value} (k : St S h0 h (A.vec e sz a l c vs :: R)) (hc : 0 < c) : ∃ g o, a = some ⟨g, o, none⟩ := by
  obtain ⟨q, _, _⟩ := St.vec (a := a) k
  rcases q.room with h1 | ⟨g, o, cur, rfl, _⟩
  · omega
  · exact ⟨g, o, rfl⟩
theorem get_spec {p t seg at_ n : Nat} {w : Sg} (k : Holds [A.blk p #[.slice a l c] t, LV a l c bss] F h) (hw : Ro F h w.a (bytesV w.bs)) (hwl : w.bs.length = w.l) (hwc : w.l ≤ w.c) (hn : n ≤ w.l)
    (hseg : n ≠ 0 → seg ≤ bss.length ∧ at_ ≤ (bss.getD seg []).length) (hb : tot bss + w.l ≤ 1099511627776) :
    CallsH Tryd.prog 50 #[.pointer (some ⟨p, 0, none⟩), .agg #[.int .i64 seg, .int .i64 at_, sgV w], .int .i64 n] h
      (fun v h' => v = .tuple #[] ∧ ∃ a' l' c', St F h h' [A.blk p #[.slice a' l' c'] t, LV a' l' c' (getS bss seg at_ w.bs n)]) := by
  refine vf50 _ _ _ _ _ _ _ h _ ?_
  unfold F50
  have k := St.start k
  have htl := tot_len bss
  refine k.vnew fun b h1 k => ?_
  refine cond_split (fun hc => ?_) (fun hc => ?_)
  · have hn0 : n = 0 := by simpa using hc
    subst hn0
    exact ⟨rfl, a, l, c, by simpa [getS] using k.drop⟩
  have hn0 : n ≠ 0 := by
    have : ((n : Int) == 0) = false := hc
    intro h0; subst h0; simp at this
  obtain ⟨hseg, hat⟩ := hseg hn0
  clear hc
  have hl0 := (LV.len k.pull2).1
  refine ⟨fun m hh => ∃ (a' : Option Addr) (l' c' : Nat) (bss' : List (List UInt8)), St F h hh [A.blk b #[.int .i64 seg, .int .i64 at_, sgV w] 83, A.blk p #[.slice a' l' c'] t, LV a' l' c' bss'] ∧ bss'.length = l' ∧ m = seg + 1 - l' ∧ (bss' = bss ∨ bss' = bss ++ [[]] ∧ seg = bss.length),
    ⟨_, a, l, c, bss, k, hl0, rfl, .inl rfl⟩, ?_⟩
  clear k
  rintro m hh _ ⟨a', l', c', bss', k, hl', rfl, hor⟩
  refine VSome.mk ⟨_, _, _, k.rd (by rfl), _, k.rd (by rfl), ?_⟩
  refine cond_split (fun hc => ?_) (fun hc => ?_)
  · have hls : l' ≤ seg := by
      have : (l' : Int) ≤ seg := of_decide_eq_true hc
      omega
    have hb' : bss' = bss := by
      rcases hor with rfl | ⟨rfl, rfl⟩
      · rfl
      · rw [List.length_append, List.length_singleton] at hl'; omega
    rw [hb'] at k hl'
    refine VSome.mk ⟨_, _, _, k.rd (by rfl), k.vnew fun b2 h2 k => ?_⟩
    have k := (k.vempty 5 none (sz := 1) (by omega)).pull1
    refine LV.push (x := ⟨none, 0, 0, []⟩) k.pull4.pull2.pull2 (by omega) fun a3 c3 h4 k => ⟨_, _, _, rfl, VSome.mk ?_⟩
    refine k.vst (by simp) fun h5 k => ?_
    refine ⟨_, ?_, a3, _, c3, bss ++ [[]], k.pull2.pull2, by simp [hl'], rfl, .inr ⟨rfl, by omega⟩⟩
    omega
  have hls : seg < l' := by
    have : ¬ (l' : Int) ≤ seg := of_decide_eq_false hc
    omega
  have htake : bss'.take seg = bss.take seg := by
    rcases hor with rfl | ⟨rfl, rfl⟩
    · rfl
    · rw [List.take_left, List.take_length]
  have hget : bss'[seg]? = some (bss.getD seg []) := by
    rcases hor with rfl | ⟨rfl, rfl⟩
    · rw [List.getD_eq_getElem?_getD, List.getElem?_eq_getElem (by omega)]; rfl
    · simp
  have hsegl : seg ≤ 1099511627776 := by omega
  have hatl := getD_len_tot bss seg
  clear hor
  refine VSome.mk ⟨_, _, _, k.rd (by rfl), _, k.rd (by rfl), ?_⟩
  refine LV.cut k.pull2 (lo := 0) (hi := seg + 1) rfl (wrap_nat (m := seg + 1) (by omega) (by omega)) rfl (by omega) (by omega) fun a3 k => ?_
  rw [List.drop_zero, take_next hget, htake] at k
  simp only [Nat.sub_zero] at k ⊢
  refine VSome.mk ?_
  refine k.vst (by simp) fun h5 k => ?_
  refine VSome.mk ⟨_, _, _, k.rd (by rfl), _, k.rd (by rfl), ?_⟩
  have hcc := LV.len k
  obtain ⟨ys, y, e1, e2, e3, w1⟩ := LV.last k
  clear k
  have k := w1
  obtain ⟨g, o, rfl⟩ := k.vaddr (by omega)
  refine ⟨by omega, by omega, VSome.mk ?_⟩
  rw [Int.toNat_natCast, Nat.mul_one, add_plain]
  have hcell : cellH h5 ⟨g, o + seg, none⟩ = some (sgV y) := by
    obtain ⟨ad, h1, h2⟩ := (k.sl (a := some ⟨g, o, none⟩)) seg (sgV y) (by rw [List.getElem?_map, ← e3]; simp)
    cases h1
    rw [add_plain] at h2; exact h2
  refine ⟨_, _, _, hcell, _, k.rd (by rfl), _, k.rd (by rfl), ?_⟩
  obtain ⟨hy1, hy2, _⟩ := BS.len k.pull1
  have hyl : at_ ≤ y.l := by rw [← hy1, e2]; exact hat
  refine k.pull1.cut (lo := 0) (hi := at_) (mx := at_) rfl rfl rfl (by omega) hyl (by omega) (by omega) fun a4 k => ?_
  refine ⟨_, _, _, k.rd (by rfl), ?_⟩
  refine (hw.mod k.ext).cut (lo := 0) (hi := n) (mx := w.c) (by rw [bytesV_len, hwl, Nat.mul_one]) rfl rfl rfl (by omega) hn (by omega) (by omega) fun a5 hw5 hl5 => ?_
  simp only [Nat.sub_zero, Nat.mul_one, Nat.zero_mul, List.drop_zero] at hw5 hl5 k ⊢
  have eT : (bytesV w.bs).take n = bytesV (w.bs.take n) := by simp [bytesV, List.map_take]
  have eY : (bytesV y.bs).take at_ = bytesV (y.bs.take at_) := by simp [bytesV, List.map_take]
  rw [eT] at hw5 hl5
  rw [eY] at k
  refine k.app T26 und26 (by simp) (Src.slice hw5.sl (by rw [hl5, Nat.mul_one])) (oneC_bytes _) (by omega) fun a6 c6 h6 k => ⟨_, _, _, rfl, ?_⟩
  rw [← bytesV_app] at k
  refine St.vset (P := Tryd.prog) k.pull1 (i := seg) (by omega) fun h7 k => ?_
  refine ⟨trivial, some ⟨g, o, none⟩, seg + 1, c', ?_⟩
  have es : ((ys ++ [y]).map sgV).set seg (.slice a6 (at_ + n) c6) = (ys ++ [(⟨a6, at_ + n, c6, y.bs.take at_ ++ w.bs.take n⟩ : Sg)]).map sgV := by
    rw [List.map_append, List.map_append, List.set_append_right _ _ (by rw [List.length_map]; omega)]
    rw [List.length_map, e3, Nat.sub_self]; rfl
  rw [es] at k
  have k := LV.mklast (y := ⟨a6, at_ + n, c6, y.bs.take at_ ++ w.bs.take n⟩) k
  rw [e1, e2] at k
  simp only [getS, hn0, if_false]
  exact k.pull1.drop.pull1
end Go.Proofs.YtbaglaoefaoaoaaDoor.F
