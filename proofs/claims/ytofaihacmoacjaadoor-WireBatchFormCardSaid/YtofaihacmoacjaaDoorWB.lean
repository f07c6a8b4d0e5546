/- Lists in memory: rows made, written, read; lists of bytes, of events. Conditions: none. -/
import Derived.Test.YtofaihacmoacjaaDoorWA
namespace Go.Proofs.YtofaihacmoacjaaDoor.F
open Go Go.VC Go.Proofs
set_option linter.unusedSimpArgs false
set_option linter.unusedVariables false
set_option maxRecDepth 100000
attribute [local irreducible] CallsH RunsTo PureTo

variable {S F G : Nat → Prop} {h0 h h1 : Heap} {L R L' : List A} {a b : Option Addr} {l c l2 c2 p t at_ : Nat} {bs cs : List UInt8} {bss css : List Bytes} {e : Int} {ev : Ev} {v : Val}
/-! ### Rows -/
theorem made_rows {α : Type} {f : α → List Value} {sz : Nat} (hf : ∀ x, (f x).length = sz) (h0 : 0 < sz) (x : α) (m : Nat) : (madeCells (f x).toArray (m * sz)).toList = (List.replicate m x).flatMap f := by
  apply List.ext_getElem?
  intro i
  have hl : ((List.replicate m x).flatMap f).length = m * sz := by rw [flatMap_len hf, List.length_replicate]
  by_cases hi : i < m * sz
  · have hd : i / sz < m := (Nat.div_lt_iff_lt_mul h0).2 hi
    have hm : i % sz < sz := Nat.mod_lt _ h0
    obtain ⟨v, hv⟩ : ∃ v, (f x)[i % sz]? = some v := ⟨_, List.getElem?_eq_getElem (by rw [hf]; exact hm)⟩
    have h1 := flatMap_at hf (l := List.replicate m x) (i := i / sz) (r := i % sz) (x := x) (by rw [List.getElem?_replicate, if_pos hd]) hv
    have e : i / sz * sz + i % sz = i := by rw [Nat.mul_comm]; exact Nat.div_add_mod i sz
    rw [e] at h1
    rw [h1]
    simp only [madeCells, Array.toList_map, Array.toList_range, List.getElem?_map, List.getElem?_range hi, Option.map_some]
    have hs : (f x).toArray.size = sz := by simp [hf]
    rw [hs]
    have : (f x).toArray[i % sz]! = v := by
      have h2 : (f x).toArray[i % sz]? = some v := by simpa using hv
      rw [getElem!_def, h2]
    rw [this]
  · rw [List.getElem?_eq_none (by rw [Array.length_toList, size_madeCells]; omega), List.getElem?_eq_none (by omega)]
theorem flat_take {α : Type} {f : α → List Value} {sz : Nat} (hf : ∀ x, (f x).length = sz) : ∀ (xs : List α) (i : Nat), (xs.flatMap f).take (i * sz) = (xs.take i).flatMap f
  | [], i => by simp
  | x :: xs, 0 => by simp
  | x :: xs, i + 1 => by
    rw [List.flatMap_cons, List.take_succ_cons, List.flatMap_cons, List.take_append, hf, Nat.succ_mul, List.take_of_length_le (by rw [hf]; omega), Nat.add_sub_cancel, flat_take hf xs i]
theorem flat_drop {α : Type} {f : α → List Value} {sz : Nat} (hf : ∀ x, (f x).length = sz) : ∀ (xs : List α) (i : Nat), (xs.flatMap f).drop (i * sz) = (xs.drop i).flatMap f
  | [], i => by simp
  | x :: xs, 0 => by simp
  | x :: xs, i + 1 => by
    rw [List.flatMap_cons, List.drop_succ_cons, List.drop_append, hf, Nat.succ_mul, List.drop_of_length_le (by rw [hf]; omega), Nat.add_sub_cancel, flat_drop hf xs i, List.nil_append]
theorem flat_set {α : Type} {f : α → List Value} {sz : Nat} (hf : ∀ x, (f x).length = sz) (xs : List α) (i : Nat) (y : α) (hi : i < xs.length) : (xs.flatMap f).take (i * sz) ++ f y ++ (xs.flatMap f).drop ((i + 1) * sz) = (xs.set i y).flatMap f := by
  rw [flat_take hf, flat_drop hf, List.set_eq_take_append_cons_drop, if_pos hi, List.flatMap_append, List.flatMap_cons, List.append_assoc]
theorem _root_.Go.VC.St.vaddr {e sz : Nat} {vs : List Value} (k : St S h0 h (A.vec e sz a l c vs :: R)) (hc : 0 < c) : ∃ g o, a = some ⟨g, o, none⟩ := by
  obtain ⟨q, _, _⟩ := St.vec (a := a) k
  rcases q.room with h1 | ⟨g, o, cur, rfl, _⟩
  · omega
  · exact ⟨g, o, rfl⟩
/-- An element's place. -/
theorem _root_.Go.VC.St.vix {e sz : Nat} {vs : List Value} {i : Nat} {K : Addr → Prop} (k : St S h0 h (A.vec e sz a l c vs :: R)) (hi : i < l) (q : ∀ g o, a = some ⟨g, o, none⟩ → K ⟨g, o + i * sz, none⟩) : VIdx a l (i : Int) sz K := by
  obtain ⟨v, _, _⟩ := St.vec (a := a) k
  have := v.le
  obtain ⟨g, o, rfl⟩ := k.vaddr (by omega)
  refine ⟨by omega, by omega, VSome.mk ?_⟩
  rw [Int.toNat_natCast, VC.add_plain]
  exact q g o rfl
/-- An element of a slice that is held is written. -/
theorem _root_.Go.VC.St.vput {e sz g o i : Nat} {vs ws : List Value} (k : St S h0 h (A.vec e sz (some ⟨g, o, none⟩) l c vs :: R)) (hi : i < l) (hw : ws.length = sz) (hone : ∀ v ∈ ws, oneC v = true) {K : Heap → Prop}
    (q : ∀ h', St S h0 h' (A.vec e sz (some ⟨g, o, none⟩) l c (vs.take (i * sz) ++ ws ++ vs.drop ((i + 1) * sz)) :: R) → K h') : storeL ⟨g, o + i * sz, none⟩ 0 ws h K := by
  obtain ⟨F, G, k1, kG, d, hf, back⟩ := k.frameA
  obtain ⟨hv, hF, hs, hc⟩ := k1.one
  rcases hv.room with h00 | ⟨g', o', cur, e1, hB, hsz⟩
  · have := hv.le; omega
  · cases e1
    have hle := hv.le
    have hlen := hv.len
    have hil : (i + 1) * sz ≤ l * sz := Nat.mul_le_mul_right sz hi
    have hlc : l * sz ≤ c * sz := Nat.mul_le_mul_right sz hle
    have his : (i + 1) * sz = i * sz + sz := Nat.succ_mul _ _
    have h2 : (vs.take (i * sz)).length = i * sz := by rw [List.length_take]; omega
    refine storeL.mkAt ws 0 h cur (o + i * sz) hB (by omega) hone fun h1 hB1 m s => q h1 (back ⟨m.mono fun b hb => by subst hb; exact .inl ((hF _).2 ⟨by omega, rfl⟩), F, .mk1 ⟨⟨?_, hle, ?_, .inr ⟨g, o, _, rfl, hB1, by rw [putAt_size]; exact hsz⟩⟩, hF, hs, hc⟩, fun b hb => .inl hb⟩)
    · rw [List.length_append, List.length_append, h2, hw, List.length_drop, hlen]; omega
    · refine hB1.sl o fun j u hj => ?_
      rw [Nat.add_zero, putAt_get _ _ _ _ (by omega)]
      by_cases e2 : j < i * sz
      · rw [List.append_assoc, List.getElem?_append_left (by omega), List.getElem?_take, if_pos e2] at hj
        rw [if_neg (by omega)]
        exact hv.at hB j u hj
      · by_cases e3 : j < i * sz + sz
        · rw [List.append_assoc, List.getElem?_append_right (by omega), h2, List.getElem?_append_left (by omega)] at hj
          rw [if_pos (by omega), show o + j - (o + i * sz) = j - i * sz by omega]
          exact hj
        · rw [List.getElem?_append_right (by rw [List.length_append]; omega), List.length_append, h2, hw, List.getElem?_drop, his, show i * sz + sz + (j - (i * sz + sz)) = j by omega] at hj
          rw [if_neg (by omega)]
          exact hv.at hB j u hj
theorem _root_.Go.VC.St.vrow {α : Type} {f : α → List Value} {e sz g o i : Nat} (hf : ∀ x, (f x).length = sz) {xs : List α} {y : α} (k : St S h0 h (A.vec e sz (some ⟨g, o, none⟩) l c (xs.flatMap f) :: R)) (hl : xs.length = l) (hi : i < l) (hone : ∀ v ∈ f y, oneC v = true) {K : Heap → Prop}
    (q : ∀ h', St S h0 h' (A.vec e sz (some ⟨g, o, none⟩) l c ((xs.set i y).flatMap f) :: R) → K h') : storeL ⟨g, o + i * sz, none⟩ 0 (f y) h K :=
  k.vput hi (hf y) hone fun h' k => q h' (by rw [← flat_set hf xs i y (by omega)]; exact k)
/-- A list that is filled from its front on. -/
def fillTo {α : Type} (xs : List α) (z : α) (j : Nat) : List α := xs.take j ++ List.replicate (xs.length - j) z
theorem fill_len {α : Type} (xs : List α) (z : α) {j : Nat} (h : j ≤ xs.length) : (fillTo xs z j).length = xs.length := by
  unfold fillTo; rw [List.length_append, List.length_take, List.length_replicate]; omega
theorem fill_set {α : Type} {xs : List α} {z x : α} {j : Nat} (h : xs[j]? = some x) : (fillTo xs z j).set j x = fillTo xs z (j + 1) := by
  have hlt := (List.getElem?_eq_some_iff.1 h).1
  have h1 : (xs.take j).length = j := by rw [List.length_take]; omega
  unfold fillTo
  rw [List.set_append_right _ _ (by omega), h1, Nat.sub_self, take_next h, List.append_assoc]
  congr 1
  rw [show xs.length - j = xs.length - (j + 1) + 1 by omega, List.replicate_succ]
  rfl
theorem fill_all {α : Type} (xs : List α) (z : α) : fillTo xs z xs.length = xs := by unfold fillTo; simp
theorem fill_0 {α : Type} (xs : List α) (z : α) : fillTo xs z 0 = List.replicate xs.length z := by unfold fillTo; simp
/-! ### Rows of bytes -/
structure Sg where
  a : Option Addr
  l : Nat
  c : Nat
  bs : List UInt8
def sgV (s : Sg) : Value := .slice s.a s.l s.c
/-- Lists of rows that others hold, away from F. -/
def RoL (F : Nat → Prop) (h : Heap) (a : Option Addr) (l : Nat) (bss : List (List UInt8)) : Prop :=
  ∃ xs : List Sg, Ro F h a (xs.map sgV) ∧ (∀ x ∈ xs, Ro F h x.a (bytesV x.bs) ∧ x.bs.length = x.l ∧ x.l ≤ x.c) ∧ xs.map Sg.bs = bss ∧ bss.length = l
theorem RoL.at (k : RoL S h0 a l bss) (m : Mod S h0 h) (hf : ∀ b, F b → S b ∨ h0.size ≤ b) : RoL F h a l bss := by
  obtain ⟨xs, q1, q2, q3, q4⟩ := k
  exact ⟨xs, q1.at m hf, fun x hx => ⟨(q2 x hx).1.at m hf, (q2 x hx).2⟩, q3, q4⟩
theorem RoL.in (k : RoL S h0 a l bss) (s : St S h0 h L) : RoL none_ h a l bss := k.at s.ext fun _ h => h.elim
theorem RoL.mod (k : RoL F h a l bss) (m : Mod F h h1) : RoL F h1 a l bss := by
  obtain ⟨xs, q1, q2, q3, q4⟩ := k
  exact ⟨xs, q1.mod m, fun x hx => ⟨(q2 x hx).1.mod m, (q2 x hx).2⟩, q3, q4⟩
/-- One row of a list. -/
theorem RoL.one (k : RoL F h a l bss) {i : Int} {K : Addr → Prop} (h0 : 0 ≤ i) (hi : i < l)
    (q : ∀ ad (x : Sg), bss[i.toNat]? = some x.bs → cellH h ad = some (sgV x) → Ro F h x.a (bytesV x.bs) → x.bs.length = x.l → x.l ≤ x.c → K ad) : VIdx a l i 1 K := by
  obtain ⟨xs, q1, q2, q3, q4⟩ := k
  have hl : xs.length = l := by rw [← q4, ← q3, List.length_map]
  refine q1.sl.one hl h0 hi fun ad x hx hc => q ad x ?_ hc (q2 x (List.mem_of_getElem? hx)).1 (q2 x (List.mem_of_getElem? hx)).2.1 (q2 x (List.mem_of_getElem? hx)).2.2
  rw [← q3, List.getElem?_map, hx]; rfl
def tot (bss : List (List UInt8)) : Nat := (bss.map fun b => b.length + 1).sum
theorem tot_cons (b : List UInt8) (bss : List (List UInt8)) : tot (b :: bss) = b.length + 1 + tot bss := rfl
theorem tot_len : ∀ bss : List (List UInt8), bss.length ≤ tot bss
  | [] => by simp
  | b :: bss => by have := tot_len bss; rw [tot_cons, List.length_cons]; omega
theorem tot_mem : ∀ {bss : List (List UInt8)} {b : List UInt8}, b ∈ bss → b.length + 1 ≤ tot bss
  | x :: bss, b, hb => by
    rw [tot_cons]
    rcases List.mem_cons.1 hb with rfl | hb
    · omega
    · have := tot_mem hb; omega
theorem tot_get {bss : List (List UInt8)} {i : Nat} {b : List UInt8} (h : bss[i]? = some b) : b.length + 1 ≤ tot bss := tot_mem (List.mem_of_getElem? h)
/-- So many lists at most, each so long at most. -/
def Lim (bss : List (List UInt8)) (N : Nat) : Prop := bss.length ≤ N ∧ ∀ b ∈ bss, b.length + 1 ≤ N
theorem Lim.get {bss : List (List UInt8)} {N i : Nat} {b : List UInt8} (k : Lim bss N) (h : bss[i]? = some b) : b.length + 1 ≤ N := k.2 _ (List.mem_of_getElem? h)
/-! ### Rows of events -/
structure Se where
  a : Option Addr
  c : Nat
  e : Ev
def seV (s : Se) : List Value := [.string (bA s.e.t), .int .i64 s.e.tm, .slice s.a s.e.vs.length s.c]
theorem seV_len (s : Se) : (seV s).length = 3 := rfl
theorem oneC_se (s : Se) : ∀ v ∈ seV s, oneC v = true := by
  intro w hw
  simp only [seV, List.mem_cons, List.not_mem_nil, or_false] at hw
  rcases hw with rfl | rfl | rfl <;> rfl
def RoE (F : Nat → Prop) (h : Heap) (a : Option Addr) (l : Nat) (es : List Ev) : Prop :=
  ∃ xs : List Se, Ro F h a (xs.flatMap seV) ∧ (∀ x ∈ xs, EvRo F h x.a x.e.vs.length x.e) ∧ xs.map Se.e = es ∧ es.length = l
variable {es fs : List Ev}
theorem RoE.at (k : RoE S h0 a l es) (m : Mod S h0 h) (hf : ∀ b, F b → S b ∨ h0.size ≤ b) : RoE F h a l es := by
  obtain ⟨xs, q1, q2, q3, q4⟩ := k
  exact ⟨xs, q1.at m hf, fun x hx => (q2 x hx).at m hf, q3, q4⟩
theorem RoE.in (k : RoE S h0 a l es) (s : St S h0 h L) : RoE none_ h a l es := k.at s.ext fun _ h => h.elim
theorem RoE.ext (k : RoE none_ h0 a l es) (m : Ext h0 h) : RoE none_ h a l es := k.at m fun _ h => h.elim
theorem RoE.one (k : RoE F h a l es) {i : Int} {K : Addr → Prop} (h0 : 0 ≤ i) (hi : i < l)
    (q : ∀ ad (x : Se), es[i.toNat]? = some x.e → cellH h ad = some (.string (bA x.e.t)) → cellH h ⟨ad.block, ad.off + 1, none⟩ = some (.int .i64 x.e.tm) → cellH h ⟨ad.block, ad.off + 2, none⟩ = some (.slice x.a x.e.vs.length x.c) → EvRo F h x.a x.e.vs.length x.e → K ad) : VIdx a l i 3 K := by
  obtain ⟨xs, q1, q2, q3, q4⟩ := k
  have hl : xs.length = l := by rw [← q4, ← q3, List.length_map]
  refine q1.sl.row seV_len (by omega) hl h0 hi fun ad x hx hc => q ad x ?_ (hc 0 _ rfl) (hc 1 _ rfl) (hc 2 _ rfl) (q2 x (List.mem_of_getElem? hx))
  rw [← q3, List.getElem?_map, hx]; rfl
/-! ### Comparing -/
theorem vals_spec {vs ws : List Val} (hs : Sl h a (vs.flatMap valV)) (hl : vs.length = l) (ht : Sl h b (ws.flatMap valV)) (hl2 : ws.length = l2) (hb : l < 9223372036854775807) : CallsH Tryd.prog 50 #[.slice a l c, .slice b l2 c2] h (fun v h' => v = .bool (decide (vs = ws)) ∧ h' = h) := by
  refine vf50 _ _ _ _ _ _ h _ ?_
  unfold F50
  refine cond_split (fun hc => ?_) (fun hc => ?_)
  · have hne : (l : Int) ≠ l2 := by simpa using hc
    refine ⟨?_, rfl⟩
    rw [decide_eq_false (fun e => hne (by subst e; omega))]
  have hll : l = l2 := by
    have : (l : Int) = l2 := by simpa using hc
    omega
  subst hll
  clear hc
  refine ⟨fun n hh _ i => ∃ j : Nat, i = j ∧ j ≤ l ∧ n = l - j ∧ hh = h ∧ vs.take j = ws.take j, ⟨_, 0, rfl, by omega, rfl, rfl, rfl⟩, ?_⟩
  rintro n hh _ _ i ⟨j, rfl, hj, rfl, rfl, he⟩
  refine cond_split (fun hc => ?_) (fun hc => ?_)
  · have hjl : j < l := Int.ofNat_lt.1 (of_decide_eq_true hc)
    refine valRow hs hl (by omega) (by omega) fun ad x hx c0 c1 c2 c3 => ⟨_, c0, _, c1, _, c2, _, c3, ?_⟩
    refine valRow ht hl2 (by omega) (by omega) fun ad y hy d0 d1 d2 d3 => ⟨_, d0, _, d1, _, d2, _, d3, ?_⟩
    rw [Int.toNat_natCast] at hx hy
    refine val_neq (x := x) (y := y) ⟨_, rfl, cond_split (fun hd => ?_) (fun hd => ?_)⟩
    · refine ⟨?_, rfl⟩
      rw [decide_eq_false]
      intro e
      subst e
      rw [hx] at hy
      cases hy
      simp at hd
    · have hxy : x = y := by simpa using hd
      refine ⟨_, by omega, j + 1, wrap_nat hjl (by omega), hjl, rfl, rfl, ?_⟩
      rw [take_next hx, take_next hy, he, hxy]
  · have hjl : j = l := by
      have : ¬ (j : Int) < l := of_decide_eq_false hc
      omega
    subst hjl
    rw [List.take_of_length_le (by omega), List.take_of_length_le (by omega)] at he
    exact ⟨by rw [decide_eq_true he], rfl⟩
theorem events_spec {e f : Ev} (hs : Sl h a (e.vs.flatMap valV)) (hl : e.vs.length = l) (ht : Sl h b (f.vs.flatMap valV)) (hl2 : f.vs.length = l2) (hb : l < 9223372036854775807) : CallsH Tryd.prog 20 #[aggE e a l c, aggE f b l2 c2] h (fun v h' => v = .bool (decide (e = f)) ∧ Ext h h') := by
  refine vf20 _ _ _ _ _ _ _ _ _ _ h _ ?_
  unfold F20
  have k := St.fresh h
  have key : decide (e = f) = (decide (e.t = f.t) && (decide (e.tm = f.tm) && decide (e.vs = f.vs))) := by
    cases e; cases f
    rw [Bool.eq_iff_iff]
    simp [Ev.mk.injEq]
  refine k.vnew fun b1 h1 k => k.vnew fun b3 h3 k => ⟨_, k.rd (by rfl), _, k.rd (by rfl), ?_⟩
  rw [eqStr]
  refine cond_split (fun hc => ⟨_, k.rd (by rfl), _, k.rd (by rfl), cond_split (fun hc2 => ⟨_, _, _, k.rd (by rfl), _, _, _, k.rd (by rfl), ?_⟩) (fun hc2 => ⟨?_, k.ext⟩)⟩) (fun hc => ⟨?_, k.ext⟩)
  · refine CallsH.mono (vals_spec (hs.ext k.ext) hl (ht.ext k.ext) hl2 hb) ?_
    rintro _ _ ⟨rfl, rfl⟩
    refine ⟨_, rfl, ?_, k.ext⟩
    have e2 : decide (e.tm = f.tm) = true := decide_eq_true (by simpa using hc2)
    rw [key, hc, e2, Bool.true_and, Bool.true_and]
  · have e2 : decide (e.tm = f.tm) = false := decide_eq_false (by simpa using hc2)
    rw [key, e2]; simp
  · rw [key, hc]; simp
theorem lists_spec (hs : RoE none_ h a l es) (ht : RoE none_ h b l2 fs) (hb : l < 9223372036854775807) (hb2 : ∀ e ∈ es, e.vs.length < 9223372036854775807) : CallsH Tryd.prog 33 #[.slice a l c, .slice b l2 c2] h (fun v h' => v = .bool (decide (es = fs)) ∧ Ext h h') := by
  refine vf33 _ _ _ _ _ _ h _ ?_
  unfold F33
  have hl : es.length = l := by obtain ⟨_, _, _, _, e⟩ := hs; exact e
  have hl2 : fs.length = l2 := by obtain ⟨_, _, _, _, e⟩ := ht; exact e
  refine cond_split (fun hc => ?_) (fun hc => ?_)
  · have hne : (l : Int) ≠ l2 := by simpa using hc
    refine ⟨?_, .refl _ _⟩
    rw [decide_eq_false (fun e => hne (by subst e; omega))]
  have hll : l = l2 := by
    have : (l : Int) = l2 := by simpa using hc
    omega
  subst hll
  clear hc
  refine ⟨fun n hh _ i => ∃ j : Nat, i = j ∧ j ≤ l ∧ n = l - j ∧ Ext h hh ∧ es.take j = fs.take j, ⟨_, 0, rfl, by omega, rfl, .refl _ _, rfl⟩, ?_⟩
  rintro n hh _ _ i ⟨j, rfl, hj, rfl, m, he⟩
  refine cond_split (fun hc => ?_) (fun hc => ?_)
  · have hjl : j < l := Int.ofNat_lt.1 (of_decide_eq_true hc)
    refine (hs.ext m).one (by omega) (by omega) fun ad x hx c0 c1 c2 kx => ⟨_, c0, _, c1, _, _, _, c2, ?_⟩
    refine (ht.ext m).one (by omega) (by omega) fun ad y hy d0 d1 d2 ky => ⟨_, d0, _, d1, _, _, _, d2, ?_⟩
    rw [Int.toNat_natCast] at hx hy
    refine CallsH.mono (events_spec kx.ro.sl rfl ky.ro.sl rfl (hb2 _ (List.mem_of_getElem? hx))) ?_
    rintro _ _ ⟨rfl, m2⟩
    refine ⟨_, rfl, cond_split (fun hd => ?_) (fun hd => ?_)⟩
    · refine ⟨?_, m.then m2⟩
      rw [decide_eq_false]
      intro e
      subst e
      rw [hx] at hy
      simp at hy
      simp [hy] at hd
    · have hxy : x.e = y.e := by simpa using hd
      refine ⟨_, by omega, j + 1, wrap_nat hjl (by omega), hjl, rfl, m.then m2, ?_⟩
      rw [take_next hx, take_next hy, he, hxy]
  · have hjl : j = l := by
      have : ¬ (j : Int) < l := of_decide_eq_false hc
      omega
    subst hjl
    rw [List.take_of_length_le (by omega), List.take_of_length_le (by omega)] at he
    exact ⟨by rw [decide_eq_true he], m⟩
end Go.Proofs.YtofaihacmoacjaaDoor.F
