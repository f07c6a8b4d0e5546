/- The laws of the wire: a book of lists that are full of marks. Conditions: none. -/
import Derived.Test.YtofaihacmoacjaaDoorWT
import Derived.Test.YtofaihacmoacjaaDoorS4
/-! ## The laws of the wire: marks, and a book of lists that are full of them. -/
namespace Go.Proofs.YtofaihacmoacjaaDoor.F
open Go Go.VC Go.Proofs
set_option linter.unusedSimpArgs false
set_option linter.unusedVariables false
set_option maxRecDepth 100000
attribute [local irreducible] CallsH RunsTo PureTo

variable {S F G : Nat → Prop} {h0 h h1 : Heap} {L R L' : List A} {a b0 la wa : Option Addr} {l c l2 c2 p b cl cw : Nat} {bs cs : List UInt8}
theorem und23 : Tryd.prog.underlying 23 = some (.slice 30) := by kernel_rfl
theorem T23 : SlTy Tryd.prog 23 30 1 24 (.slice none 0 0) := ⟨und23, by kernel_rfl, rfl, by omega, by omega⟩
theorem und48 : Tryd.prog.underlying 48 = some (.slice 22) := by kernel_rfl
theorem T48 : SlTy Tryd.prog 48 22 1 24 (.slice none 0 0) := ⟨und48, by kernel_rfl, rfl, by omega, by omega⟩
/-! ### Marks -/
def mrk (q k : Nat) : UInt8 := UInt8.ofNat ((1 + q) / 2 ^ (8 * (k % 3)))
def mkV (q : Nat) : Val := ⟨9, ((1 + q : Nat) : Int), [], false⟩
def mkE (q : Nat) : Se := ⟨none, 0, ⟨[], ((1 + q : Nat) : Int), []⟩⟩
def KdB : Kd := ⟨5, 1, fun q k => [byteV (mrk q k)], fun _ _ => rfl, fun _ _ v hv => by rw [List.mem_singleton.1 hv]; rfl, by omega⟩
def KdV : Kd := ⟨83, 4, fun q _ => valV (mkV q), fun _ _ => rfl, fun _ _ => oneC_val _, by omega⟩
def KdE : Kd := ⟨27, 3, fun q _ => seV (mkE q), fun _ _ => rfl, fun _ _ => oneC_se _, by omega⟩
theorem wr2 {i : Nat} (hi : i < 4611686018427387904) : IntKind.i64.wrap (1 + IntKind.i64.wrap (Int.tdiv (i : Int) 2)) = ((1 + i / 2 : Nat) : Int) := by
  have e2 : Int.tdiv (i : Int) 2 = ((i / 2 : Nat) : Int) := rfl
  rw [e2, wrap_id (n := ((i / 2 : Nat) : Int)) (by omega) (by omega), wrap_id (by omega) (by omega)]; omega
theorem pat_spec (i k : Nat) (hi : i < 4611686018427387904) : CallsH Tryd.prog 64 #[.int .i64 (IntKind.i64.wrap (1 + IntKind.i64.wrap (Int.tdiv (i : Int) 2))), .int .i64 k] h (fun v h' => v = byteV (mrk (i / 2) k) ∧ h' = h) := by
  refine vf64 _ _ h _ ?_
  unfold F64
  have e1 : Int.tmod (k : Int) 3 = ((k % 3 : Nat) : Int) := rfl
  have h3 : k % 3 < 3 := Nat.mod_lt _ (by omega)
  have e3 : IntKind.i64.wrap (8 * ((k % 3 : Nat) : Int)) = ((8 * (k % 3) : Nat) : Int) := by rw [wrap_id (by omega) (by omega)]; omega
  rw [e1, e3, wr2 hi]
  refine ⟨by omega, by omega, ?_, rfl⟩
  rw [Int.toNat_natCast, show IntKind.bits .i64 = 64 from rfl, Nat.min_eq_left (by omega), wrap_u8, Int.fdiv_eq_ediv_of_nonneg _ (Int.pow_nonneg (by omega)), mrk, byteV_of]
  congr 1
theorem vmark_spec (i : Nat) (hi : i < 4611686018427387904) : CallsH Tryd.prog 65 #[.int .i64 (IntKind.i64.wrap (1 + IntKind.i64.wrap (Int.tdiv (i : Int) 2)))] h (fun v h' => v = aggV (mkV (i / 2)) ∧ Ext h h') := by
  refine vf65 _ h _ ?_
  unfold F65
  rw [wr2 hi]
  exact (St.fresh h).vnew fun _ _ k => k.vall (by rfl) (by rfl) fun _ k => ⟨_, k.rd (by rfl), _, k.rd (by rfl), _, k.rd (by rfl), _, k.rd (by rfl), rfl, k.ext⟩
theorem far_spec (n : Nat) : CallsH Tryd.prog 82 #[.int .i64 n] h (fun v h' => v = .int .i64 ((min n 70000 : Nat) : Int) ∧ h' = h) := by
  refine vf82 _ h _ ?_
  unfold F82
  refine ⟨?_, rfl⟩
  congr 1
  unfold minI
  split <;> omega
/-! ### A list that is filled by a pattern -/
def half (K : Kd) (t : Nat) (vs : List Value) (r : Nat) : List Value := patR K.f t r ++ vs.drop (r * K.sz)
theorem half_0 (K : Kd) (t : Nat) (vs : List Value) : half K t vs 0 = vs := by simp [half, patR]
theorem half_all {K : Kd} {t : Nat} {vs : List Value} (hl : vs.length = l * K.sz) : half K t vs l = patR K.f t l := by
  unfold half
  rw [List.drop_of_length_le (by omega), List.append_nil]
theorem half_put {K : Kd} {t : Nat} {vs : List Value} {g o r : Nat} {Q : Heap → Prop} (k : St S h0 h (A.vec K.e K.sz (some ⟨g, o, none⟩) l c (half K t vs r) :: R)) (hr : r < l)
    (q : ∀ h', St S h0 h' (A.vec K.e K.sz (some ⟨g, o, none⟩) l c (half K t vs (r + 1)) :: R) → Q h') : storeL ⟨g, o + r * K.sz, none⟩ 0 (K.f t r) h Q := by
  refine k.vput hr (K.hf t r) (K.ho t r) fun h' k => q h' ?_
  have hs : (r + 1) * K.sz = r * K.sz + K.sz := Nat.succ_mul _ _
  have hp := patR_len K t r
  have e : (half K t vs r).take (r * K.sz) ++ K.f t r ++ (half K t vs r).drop ((r + 1) * K.sz) = half K t vs (r + 1) := by
    unfold half
    rw [List.take_append, List.take_of_length_le (by omega), hp, Nat.sub_self, List.take_zero, List.append_nil, patR_next, List.drop_append, List.drop_of_length_le (by omega), List.nil_append, List.drop_drop, hp]
    congr 2
    omega
  rwa [e] at k
theorem half_byte {t : Nat} {vs : List Value} {g o r : Nat} {Q : Heap → Prop} (k : St S h0 h (A.vec 5 1 (some ⟨g, o, none⟩) l c (half KdB t vs r) :: R)) (hr : r < l)
    (q : ∀ h', St S h0 h' (A.vec 5 1 (some ⟨g, o, none⟩) l c (half KdB t vs (r + 1)) :: R) → Q h') : VStore h ⟨g, o + r * 1, none⟩ (byteV (mrk t r)) Q :=
  storeOne.back rfl (half_put (K := KdB) k hr q)
/-! ### The book -/
abbrev Tr := Option Addr × Nat × Nat
def trV (t : Tr) : Value := .slice t.1 t.2.1 t.2.2
theorem oneC_tr (es : List Tr) : ∀ v ∈ es.map trV, oneC v = true := by
  intro v hv
  obtain ⟨b, _, rfl⟩ := List.mem_map.1 hv
  rfl
abbrev nilT : Tr := (none, 0, 0)
theorem tr_one {es : List Tr} {i n : Nat} {e : Tr} {K : Addr → Prop} (hs : Sl h a (es.map trV)) (hn : es.length = n) (he : es[i]? = some e) (q : ∀ ad, cellH h ad = some (trV e) → K ad) : VIdx a n (i : Int) 1 K := by
  subst hn
  have hlt := (List.getElem?_eq_some_iff.1 he).1
  refine hs.one rfl (by omega) (by omega) fun ad x hx hc => ?_
  rw [Int.toNat_natCast, he] at hx
  cases hx
  exact q ad hc
/-- A column of the book: lists, and behind each what it became when it was written on. -/
structure Cm where
  a : Option Addr
  c : Nat
  es : List Tr
  bufs : List (Bf Nat)
abbrev hdA (e : Nat) (m : Cm) : A := A.vec e 1 m.a m.es.length m.c (m.es.map trV)
abbrev hdV (m : Cm) : Value := .slice m.a m.es.length m.c
structure CmOk (m : Cm) : Prop where
  ev : m.es.length % 2 = 0
  es : ∀ (i : Nat) e, m.es[i]? = some e → (i % 2 = 1 ∧ e = nilT) ∨ On m.bufs (i / 2) e.1 e.2.1 e.2.2
  sm : ∀ (i : Nat) e, i % 2 = 0 → m.es[i]? = some e → e.2.1 ≤ 1099511627776
theorem CmOk.nil : CmOk ⟨none, 0, [], []⟩ := ⟨rfl, fun i e h => by simp at h, fun i e _ h => by simp at h⟩
theorem CmOk.set {m : Cm} (k : CmOk m) {i : Nat} (hi : i % 2 = 0) {e : Tr} {bufs' : List (Bf Nat)} (cov : Cov m.bufs bufs') (on : On bufs' (i / 2) e.1 e.2.1 e.2.2) : CmOk ⟨m.a, m.c, m.es.set (i + 1) e, bufs'⟩ := by
  refine ⟨by show (m.es.set (i + 1) e).length % 2 = 0; rw [List.length_set]; exact k.ev, fun j e' h => ?_, fun j e' hj h => ?_⟩
  · replace h : (m.es.set (i + 1) e)[j]? = some e' := h
    rw [List.getElem?_set] at h
    split at h
    · rename_i hij
      subst hij
      split at h
      · cases h
        refine .inr ?_
        rw [show (i + 1) / 2 = i / 2 by omega]; exact on
      · cases h
    · exact (k.es j e' h).imp id fun o => o.cov cov
  · have h : (m.es.set (i + 1) e)[j]? = some e' := h
    rw [List.getElem?_set_ne (by omega)] at h
    exact k.sm j e' hj h
theorem CmOk.add {m : Cm} (k : CmOk m) (hl : l ≤ 1099511627776) {a2 : Option Addr} : CmOk ⟨a2, c2, m.es ++ [(a, l, c), nilT], ⟨m.es.length / 2, a, l, c⟩ :: m.bufs⟩ := by
  have hev := k.ev
  refine ⟨by show (m.es ++ [(a, l, c), nilT]).length % 2 = 0; rw [List.length_append]; show (m.es.length + 2) % 2 = 0; omega, fun i e he => ?_, fun i e hi he => ?_⟩
  · have he : (m.es ++ [(a, l, c), nilT])[i]? = some e := he
    by_cases h2 : i < m.es.length
    · rw [List.getElem?_append_left h2] at he
      exact (k.es i e he).imp id fun o => o.cov (Cov.cons _ _)
    · rw [List.getElem?_append_right (by omega)] at he
      have hi2 := (List.getElem?_eq_some_iff.1 he).1
      have hi2 : i - m.es.length < 2 := hi2
      have hc : i - m.es.length = 0 ∨ i - m.es.length = 1 := by omega
      rcases hc with hc | hc <;> rw [hc] at he <;> cases he
      · refine .inr ⟨_, List.mem_cons_self, ?_, rfl, rfl, Nat.le_refl _⟩
        show m.es.length / 2 = i / 2
        omega
      · exact .inl ⟨by omega, rfl⟩
  · have he : (m.es ++ [(a, l, c), nilT])[i]? = some e := he
    by_cases h2 : i < m.es.length
    · rw [List.getElem?_append_left h2] at he
      exact k.sm i e hi he
    · rw [List.getElem?_append_right (by omega)] at he
      have hi2 := (List.getElem?_eq_some_iff.1 he).1
      have hi2 : i - m.es.length < 2 := hi2
      have hc : i - m.es.length = 0 := by omega
      rw [hc] at he
      cases he
      exact hl
structure Bk where
  x : Cm
  y : Cm
  z : Cm
  n : Int
  t0 : Nat
  t1 : Nat
  t2 : Nat
abbrev bkC (m : Bk) : Array Value := #[hdV m.x, hdV m.y, hdV m.z, .int .i64 m.n, .int .i64 m.t0, .int .i64 m.t1, .int .i64 m.t2]
abbrev BookL (p : Nat) (m : Bk) : List A := [A.blk p (bkC m) 63, hdA 30 m.x, hdA 25 m.y, hdA 22 m.z, BfK KdB m.x.bufs, BfK KdV m.y.bufs, BfK KdE m.z.bufs]
structure BkOk (m : Bk) : Prop where
  x : CmOk m.x
  y : CmOk m.y
  z : CmOk m.z
  t0 : m.t0 % 2 = 0 ∧ m.t0 ≤ m.x.es.length
  t1 : m.t1 % 2 = 0 ∧ m.t1 ≤ m.y.es.length
  t2 : m.t2 % 2 = 0 ∧ m.t2 ≤ m.z.es.length
/-- A column, as it may be read. -/
structure ColR (K : Kd) (h : Heap) (m : Cm) : Prop where
  hd : Sl h m.a (m.es.map trV)
  es : ∀ (i : Nat) e, m.es[i]? = some e → Sl h e.1 (patR K.f (i / 2) e.2.1) ∧ e.2.1 < 9223372036854775808
  len : m.es.length < 1152921504606846976
theorem ColR.ext {K : Kd} {m : Cm} (k : ColR K h m) (x : Ext h h1) : ColR K h1 m := ⟨k.hd.ext x, fun i e he => ⟨(k.es i e he).1.ext x, (k.es i e he).2⟩, k.len⟩
theorem CmOk.r {K : Kd} {m : Cm} {e : Nat} (ok : CmOk m) (k : St S h0 h (hdA e m :: R)) (k2 : St S h0 h (BfK K m.bufs :: L)) (hl : m.es.length < 1152921504606846976) : ColR K h m :=
  ⟨k.sl (a := m.a), fun i e he => by
    rcases ok.es i e he with ⟨_, rfl⟩ | o
    · exact ⟨Sl.nil _ _, by show 0 < _; omega⟩
    · obtain ⟨o1, o2, o3⟩ := BfK.sl k2 o
      exact ⟨o1, by omega⟩, hl⟩
structure BkR (h : Heap) (p : Nat) (m : Bk) : Prop where
  c0 : cellH h ⟨p, 0, none⟩ = some (hdV m.x)
  c1 : cellH h ⟨p, 1, none⟩ = some (hdV m.y)
  c2 : cellH h ⟨p, 2, none⟩ = some (hdV m.z)
  x : ColR KdB h m.x
  y : ColR KdV h m.y
  z : ColR KdE h m.z
theorem BkR.ext {m : Bk} (k : BkR h p m) (e : Ext h h1) : BkR h1 p m := ⟨cellH_mod k.c0 e id, cellH_mod k.c1 e id, cellH_mod k.c2 e id, k.x.ext e, k.y.ext e, k.z.ext e⟩
/-- How long a book's columns may be. -/
structure BkL (m : Bk) (q : Nat) : Prop where
  x : m.x.es.length ≤ q
  y : m.y.es.length ≤ q
  z : m.z.es.length ≤ q
theorem BkOk.r {m : Bk} {q : Nat} (ok : BkOk m) (k : St S h0 h (BookL p m ++ R)) (l : BkL m q) (hq : q < 1152921504606846976) : BkR h p m := by
  have k : St S h0 h (A.blk p (bkC m) 63 :: hdA 30 m.x :: hdA 25 m.y :: hdA 22 m.z :: BfK KdB m.x.bufs :: BfK KdV m.y.bufs :: BfK KdE m.z.bufs :: R) := k
  exact ⟨k.rd (by rfl), k.rd (by rfl), k.rd (by rfl), ok.x.r k.drop k.drop.drop.drop.drop (Nat.lt_of_le_of_lt l.x hq), ok.y.r k.drop.drop k.drop.drop.drop.drop.drop (Nat.lt_of_le_of_lt l.y hq), ok.z.r k.drop.drop.drop k.drop.drop.drop.drop.drop.drop (Nat.lt_of_le_of_lt l.z hq)⟩
end Go.Proofs.YtofaihacmoacjaaDoor.F
/-! ## The laws of the wire: a book is whole. -/
namespace Go.Proofs.YtofaihacmoacjaaDoor.F
open Go Go.VC Go.Proofs
set_option linter.unusedSimpArgs false
set_option linter.unusedVariables false
set_option maxRecDepth 100000
attribute [local irreducible] CallsH RunsTo PureTo

variable {S F G : Nat → Prop} {h0 h h1 : Heap} {L R L' : List A} {a b0 la wa : Option Addr} {l c l2 c2 p b cl cw : Nat} {bs cs : List UInt8}
theorem whole_spec {m : Bk} (k : BkR h p m) : CallsH Tryd.prog 35 #[.pointer (some ⟨p, 0, none⟩)] h (fun v h' => v = .bool true ∧ Ext h h') := by
  refine vf35 _ h _ ?_
  unfold F35
  have lx := k.x.len
  have ly := k.y.len
  have lz := k.z.len
  refine ⟨fun n hh _ i => ∃ j : Nat, i = j ∧ j ≤ m.x.es.length ∧ n = m.x.es.length - j ∧ Ext h hh, ⟨_, 0, rfl, by omega, rfl, .refl _ _⟩, ?_⟩
  rintro n h3 _ _ i ⟨j, rfl, hj, rfl, m3⟩
  have k3 := k.ext m3
  refine VSome.mk ⟨_, _, _, k3.c0, cond_split (fun hc => ?_) (fun _ => ?_)⟩
  · have hjl : j < m.x.es.length := Int.ofNat_lt.1 (of_decide_eq_true hc)
    obtain ⟨e, he⟩ : ∃ e, m.x.es[j]? = some e := ⟨_, List.getElem?_eq_getElem hjl⟩
    have hel := (k.x.es j e he).2
    refine ⟨fun n h' _ r => ∃ t : Nat, r = t ∧ t ≤ e.2.1 ∧ n = e.2.1 - t ∧ Ext h h', ⟨_, 0, rfl, by omega, rfl, m3⟩, ?_⟩
    rintro n h12 _ _ kk ⟨r, rfl, hr, rfl, m12⟩
    have k12 := k.ext m12
    refine VSome.mk ⟨_, _, _, k12.c0, tr_one k12.x.hd rfl he fun ad hc1 => ⟨_, _, _, hc1, cond_split (fun hc => ?_) (fun _ => ?_)⟩⟩
    · have hrl : r < e.2.1 := Int.ofNat_lt.1 (of_decide_eq_true hc)
      refine VSome.mk ⟨_, _, _, k12.c0, tr_one k12.x.hd rfl he fun ad2 hc2 => ⟨_, _, _, hc2, ?_⟩⟩
      refine (k12.x.es j e he).1.row (f := KdB.f (j / 2)) (sz := 1) (xs := List.range e.2.1) (KdB.hf _) (by omega) List.length_range (by omega) (by omega) fun ad3 x hx hc3 => ⟨_, hc3 0 _ rfl, by omega, ?_⟩
      rw [Int.toNat_natCast, List.getElem?_range hrl] at hx
      cases hx
      refine CallsH.mono (pat_spec j r (by omega)) ?_
      rintro _ _ ⟨rfl, rfl⟩
      exact ⟨_, rfl, hc3 0 _ rfl, hc2, k12.c0, cond_false (by simp) ⟨e.2.1 - (r + 1), by omega, r + 1, by rw [wrap_id (by omega) (by omega)]; omega, hrl, rfl, m12⟩⟩
    · exact ⟨m.x.es.length - (j + 1), by omega, j + 1, by rw [wrap_id (by omega) (by omega)]; omega, hjl, rfl, m12⟩
  clear hj k3
  refine ⟨fun n hh _ i => ∃ j : Nat, i = j ∧ j ≤ m.y.es.length ∧ n = m.y.es.length - j ∧ Ext h hh, ⟨_, 0, rfl, by omega, rfl, m3⟩, ?_⟩
  clear m3
  rintro n h3 _ _ i ⟨j, rfl, hj, rfl, m3⟩
  have k3 := k.ext m3
  refine VSome.mk ⟨_, _, _, k3.c1, cond_split (fun hc => ?_) (fun _ => ?_)⟩
  · have hjl : j < m.y.es.length := Int.ofNat_lt.1 (of_decide_eq_true hc)
    obtain ⟨e, he⟩ : ∃ e, m.y.es[j]? = some e := ⟨_, List.getElem?_eq_getElem hjl⟩
    have hel := (k.y.es j e he).2
    refine ⟨fun n h' _ r => ∃ t : Nat, r = t ∧ t ≤ e.2.1 ∧ n = e.2.1 - t ∧ Ext h h', ⟨_, 0, rfl, by omega, rfl, m3⟩, ?_⟩
    rintro n h12 _ _ kk ⟨r, rfl, hr, rfl, m12⟩
    have k12 := k.ext m12
    refine VSome.mk ⟨_, _, _, k12.c1, tr_one k12.y.hd rfl he fun ad hc1 => ⟨_, _, _, hc1, cond_split (fun hc => ?_) (fun _ => ?_)⟩⟩
    · have hrl : r < e.2.1 := Int.ofNat_lt.1 (of_decide_eq_true hc)
      refine VSome.mk ⟨_, _, _, k12.c1, tr_one k12.y.hd rfl he fun ad2 hc2 => ⟨_, _, _, hc2, ?_⟩⟩
      refine (k12.y.es j e he).1.row (f := KdV.f (j / 2)) (sz := 4) (xs := List.range e.2.1) (KdV.hf _) (by omega) List.length_range (by omega) (by omega) fun ad3 x hx hc3 => ?_
      have d0 : cellH h12 ad3 = some (.int .i64 (mkV (j / 2)).k) := hc3 0 _ rfl
      have d1 : cellH h12 ⟨ad3.block, ad3.off + 1, none⟩ = some (.int .i64 (mkV (j / 2)).n) := hc3 1 _ rfl
      have d2 : cellH h12 ⟨ad3.block, ad3.off + 2, none⟩ = some (.string (bA (mkV (j / 2)).s)) := hc3 2 _ rfl
      have d3 : cellH h12 ⟨ad3.block, ad3.off + 3, none⟩ = some (.bool (mkV (j / 2)).b) := hc3 3 _ rfl
      refine ⟨_, d0, _, d1, _, d2, _, d3, by omega, ?_⟩
      refine CallsH.mono (vmark_spec j (by omega)) ?_
      rintro _ h60 ⟨rfl, m60⟩
      have m61 := m12.then m60
      have k60 := k.ext m61
      refine ⟨_, _, _, _, rfl, ⟨cellH_mod d0 m60 id, cellH_mod d1 m60 id, cellH_mod d2 m60 id, cellH_mod d3 m60 id⟩, cellH_mod hc2 m60 id, k60.c1, ?_⟩
      refine val_neq (x := mkV (j / 2)) (y := mkV (j / 2)) ⟨_, rfl, cond_false (by simp) ⟨e.2.1 - (r + 1), by omega, r + 1, by rw [wrap_id (by omega) (by omega)]; omega, hrl, rfl, m61⟩⟩
    · exact ⟨m.y.es.length - (j + 1), by omega, j + 1, by rw [wrap_id (by omega) (by omega)]; omega, hjl, rfl, m12⟩
  clear hj k3
  refine ⟨fun n hh _ i => ∃ j : Nat, i = j ∧ j ≤ m.z.es.length ∧ n = m.z.es.length - j ∧ Ext h hh, ⟨_, 0, rfl, by omega, rfl, m3⟩, ?_⟩
  clear m3
  rintro n h3 _ _ i ⟨j, rfl, hj, rfl, m3⟩
  have k3 := k.ext m3
  refine VSome.mk ⟨_, _, _, k3.c2, cond_split (fun hc => ?_) (fun _ => ⟨rfl, m3⟩)⟩
  have hjl : j < m.z.es.length := Int.ofNat_lt.1 (of_decide_eq_true hc)
  obtain ⟨e, he⟩ : ∃ e, m.z.es[j]? = some e := ⟨_, List.getElem?_eq_getElem hjl⟩
  have hel := (k.z.es j e he).2
  refine ⟨fun n h' _ r => ∃ t : Nat, r = t ∧ t ≤ e.2.1 ∧ n = e.2.1 - t ∧ Ext h h', ⟨_, 0, rfl, by omega, rfl, m3⟩, ?_⟩
  rintro n h12 _ _ kk ⟨r, rfl, hr, rfl, m12⟩
  have k12 := k.ext m12
  refine VSome.mk ⟨_, _, _, k12.c2, tr_one k12.z.hd rfl he fun ad hc1 => ⟨_, _, _, hc1, cond_split (fun hc => ?_) (fun _ => ?_)⟩⟩
  · have hrl : r < e.2.1 := Int.ofNat_lt.1 (of_decide_eq_true hc)
    refine VSome.mk ⟨_, _, _, k12.c2, tr_one k12.z.hd rfl he fun ad2 hc2 => ⟨_, _, _, hc2, ?_⟩⟩
    refine (k12.z.es j e he).1.row (f := KdE.f (j / 2)) (sz := 3) (xs := List.range e.2.1) (KdE.hf _) (by omega) List.length_range (by omega) (by omega) fun ad3 x hx hc3 => ?_
    have d0 : cellH h12 ad3 = some (.string (bA [])) := hc3 0 _ rfl
    have d1 : cellH h12 ⟨ad3.block, ad3.off + 1, none⟩ = some (.int .i64 ((1 + j / 2 : Nat) : Int)) := hc3 1 _ rfl
    have d2 : cellH h12 ⟨ad3.block, ad3.off + 2, none⟩ = some (.slice none 0 0) := hc3 2 _ rfl
    refine ⟨_, d0, _, d1, _, _, _, d2, ?_⟩
    refine (St.fresh h12).vnew fun b95 h96 q => q.vall (by rfl) (by rfl) fun h97 q => ?_
    have m97 := m12.then q.ext
    refine ⟨_, q.rd (by rfl), cond_false (by rw [show (ByteArray.mk #[]) = bA [] from rfl, eqStr]; rfl) ⟨_, q.rd (by rfl), by omega, ?_⟩⟩
    rw [wr2 (by omega)]
    refine cond_false (by simp) ⟨_, _, _, q.rd (by rfl), cond_false (by rfl) ⟨e.2.1 - (r + 1), by omega, r + 1, by rw [wrap_id (by omega) (by omega)]; omega, hrl, rfl, m97⟩⟩
  · exact ⟨m.z.es.length - (j + 1), by omega, j + 1, by rw [wrap_id (by omega) (by omega)]; omega, hjl, rfl, m12⟩
end Go.Proofs.YtofaihacmoacjaaDoor.F
/-! ## The laws of the wire: a list of bytes is taken into the book, and lists are written on. -/
namespace Go.Proofs.YtofaihacmoacjaaDoor.F
open Go Go.VC Go.Proofs
set_option linter.unusedSimpArgs false
set_option linter.unusedVariables false
set_option maxRecDepth 100000
attribute [local irreducible] CallsH RunsTo PureTo

variable {S F G : Nat → Prop} {h0 h h1 : Heap} {L R L' : List A} {a b0 la wa : Option Addr} {l c l2 c2 p b cl cw q : Nat} {bs cs : List UInt8}
theorem BkL.up {m : Bk} {q2 : Nat} (k : BkL m q) (h : q ≤ q2) : BkL m q2 := ⟨Nat.le_trans k.x h, Nat.le_trans k.y h, Nat.le_trans k.z h⟩
theorem tr_set {e2 n i : Nat} {es : List Tr} {e : Tr} {K : Heap → Prop} (k : St S h0 h (A.vec e2 1 a n c (es.map trV) :: R)) (hl : es.length = n) (hi : i < n) (q : ∀ h', St S h0 h' (A.vec e2 1 a n c ((es.set i e).map trV) :: R) → K h') : VIdx a n (i : Int) 1 fun ad => VStore h ad (trV e) K := by
  refine k.vix hi fun g o ha => ?_
  subst ha
  have := k.vput (ws := [trV e]) hi rfl (by simp [trV, oneC]) (K := K) fun h' k => q h' (by
    rw [Nat.mul_one, Nat.mul_one] at k
    rw [List.map_set, List.set_eq_take_append_cons_drop, if_pos (by rw [List.length_map]; omega)]
    simpa using k)
  exact storeOne.back rfl this
theorem fillBytes_spec {m : Bk} (ok : BkOk m) (k : Holds (BookL p m ++ [BV a l c bs]) F h) (hl : l ≤ 1099511627776) (hq : BkL m q) (hb : q + 2 ≤ 4398046511104) :
    CallsH Tryd.prog 62 #[.pointer (some ⟨p, 0, none⟩), .slice a l c] h (fun v h' => v = .tuple #[] ∧ ∃ m', BkOk m' ∧ BkL m' (q + 2) ∧ St F h h' (BookL p m')) := by
  refine vf62 _ _ _ _ h _ ?_
  unfold F62
  have k : St F h h (BV a l c bs :: BookL p m) := St.pull7 (St.start k)
  have hbl : bs.length = l := by have := (k.vec (a := a)).1.len; rw [bytesV_len] at this; omega
  have hvl : (bytesV bs).length = l * KdB.sz := by rw [bytesV_len, hbl]; exact (Nat.mul_one _).symm
  have hx := hq.x
  refine VSome.mk ⟨_, _, _, k.rd (by rfl), by omega, ?_⟩
  have k0 : St F h h (A.vec 5 1 a l c (half KdB (m.x.es.length / 2) (bytesV bs) 0) :: BookL p m) := by rw [half_0]; exact k
  refine ⟨fun n hh i => ∃ r : Nat, i = r ∧ r ≤ l ∧ n = l - r ∧ St F h hh (A.vec 5 1 a l c (half KdB (m.x.es.length / 2) (bytesV bs) r) :: BookL p m), ⟨_, 0, rfl, by omega, rfl, k0⟩, ?_⟩
  clear k k0
  rintro n hh _ i ⟨r, rfl, hr, rfl, k⟩
  refine cond_split (fun hc => ?_) (fun hc => ?_)
  · have hrl : r < l := Int.ofNat_lt.1 (of_decide_eq_true hc)
    refine CallsH.mono (pat_spec m.x.es.length r (by omega)) ?_
    rintro _ _ ⟨rfl, rfl⟩
    refine ⟨_, rfl, k.vix hrl fun g o ha => ?_⟩
    subst ha
    exact half_byte k hrl fun h' k => ⟨_, by omega, r + 1, wrap_nat hrl (by omega), hrl, rfl, k⟩
  · have hrl : r = l := by
      have : ¬ (r : Int) < l := of_decide_eq_false hc
      omega
    subst hrl
    rw [half_all hvl] at k
    refine VSome.mk ⟨_, k.rd (by rfl), VSome.mk (k.vst (by simp) fun h17 k => VSome.mk ⟨_, k.rd (by rfl), cond_split (fun hc => ?_) (fun hc => ?_)⟩)⟩
    · refine VSome.mk ⟨_, _, _, k.rd (by rfl), k.vnew fun b22 h23 k => ?_⟩
      have hs : Sl h23 (some ⟨b22, 0, none⟩) [.slice a r c, .slice none 0 0] := k.slB (b := b22)
      refine k.pull3.app T23 und23 (by simp) (Src.slice hs rfl) (by simp [oneC]) (by omega) fun a26 c26 h25 k => ⟨_, _, _, rfl, VSome.mk (k.vst (by simp) fun h28 k => ⟨rfl, ?_⟩)⟩
      have k := ((k.pull6.pull3.re (y := bfK KdB ⟨m.x.es.length / 2, a, r, c⟩) rfl).allIn (L := m.x.bufs.map (bfK KdB))).pull2.drop
      have e1 : (m.x.es ++ [(a, r, c), nilT]).length = m.x.es.length + 2 := by simp
      have e2 : (m.x.es ++ [(a, r, c), nilT]).map trV = m.x.es.map trV ++ [.slice a r c, .slice none 0 0] := by rw [List.map_append]; rfl
      have hy := hq.y
      have hz := hq.z
      have t0 := ok.t0
      refine ⟨⟨⟨a26, c26, m.x.es ++ [(a, r, c), nilT], ⟨m.x.es.length / 2, a, r, c⟩ :: m.x.bufs⟩, m.y, m.z, IntKind.i64.wrap (IntKind.i64.wrap (m.n + 800) + IntKind.i64.wrap (2 * (r : Int))), m.t0, m.t1, m.t2⟩, ⟨ok.x.add hl, ok.y, ok.z, ⟨t0.1, ?_⟩, ok.t1, ok.t2⟩, ⟨?_, by show m.y.es.length ≤ _; omega, by show m.z.es.length ≤ _; omega⟩, ?_⟩
      rotate_left 2
      · simp only [BookL, bkC, hdA, hdV, e1, e2]
        exact k.sel 7 [2, 1, 3, 4, 0, 5, 6] rfl (by decide) (by rfl)
      · show m.t0 ≤ (m.x.es ++ [(a, r, c), nilT]).length
        omega
      · show (m.x.es ++ [(a, r, c), nilT]).length ≤ _
        omega
    · exact ⟨rfl, ⟨m.x, m.y, m.z, IntKind.i64.wrap (IntKind.i64.wrap (m.n + 800) + IntKind.i64.wrap (2 * (r : Int))), m.t0, m.t1, m.t2⟩, ⟨ok.x, ok.y, ok.z, ok.t0, ok.t1, ok.t2⟩, ⟨by show m.x.es.length ≤ _; omega, by have := hq.y; show m.y.es.length ≤ _; omega, by have := hq.z; show m.z.es.length ≤ _; omega⟩, k.drop⟩
theorem grow_spec {m : Bk} (ok : BkOk m) (k : Holds (BookL p m) F h) (hq : BkL m q) (hb : q ≤ 4398046511104) :
    CallsH Tryd.prog 63 #[.pointer (some ⟨p, 0, none⟩)] h (fun v h' => v = .tuple #[] ∧ ∃ m', BkOk m' ∧ BkL m' q ∧ St F h h' (BookL p m')) := by
  refine vf63 _ h _ ?_
  unfold F63
  replace k : St F h h (BookL p m) := St.start k
  refine VSome.mk ⟨by omega, by omega, VSome.mk ⟨_, k.rd (by rfl), ?_⟩⟩
  refine ⟨fun n hh i => ∃ (i0 : Nat) (m' : Bk), i = i0 ∧ i0 % 2 = 0 ∧ i0 ≤ m'.x.es.length ∧ n = m'.x.es.length - i0 ∧ BkOk m' ∧ BkL m' q ∧ St F h hh (BookL p m'), ⟨_, m.t0, m, rfl, ok.t0.1, ok.t0.2, rfl, ok, hq, k⟩, ?_⟩
  clear k ok hq m
  rintro n h6 _ i ⟨i0, m, rfl, hi2, hi, rfl, ok, hq, k⟩
  have hx := hq.x
  have hev := ok.x.ev
  refine VSome.mk ⟨_, _, _, k.rd (by rfl), cond_split (fun hc => ?_) (fun hc => ?_)⟩
  · have hil : i0 < m.x.es.length := Int.ofNat_lt.1 (of_decide_eq_true hc)
    obtain ⟨e, he⟩ : ∃ e, m.x.es[i0]? = some e := ⟨_, List.getElem?_eq_getElem hil⟩
    have on : On m.x.bufs (i0 / 2) e.1 e.2.1 e.2.2 := (ok.x.es i0 e he).resolve_left fun q => by omega
    have sm := ok.x.sm i0 e hi2 he
    have k : St F h h6 [BfK KdB m.x.bufs, A.blk p (bkC m) 63, hdA 30 m.x, hdA 25 m.y, hdA 22 m.z, BfK KdV m.y.bufs, BfK KdE m.z.bufs] := k.pull4
    obtain ⟨_, o2, o3⟩ := BfK.sl k on
    refine VSome.mk ⟨_, _, _, k.rd (by rfl), tr_one (k.sl (a := m.x.a)) rfl he fun ad hc1 => ⟨_, _, _, hc1, ?_⟩⟩
    refine ⟨fun n hh ga gl gc j => ∃ (t : Nat) (bufs' : List (Bf Nat)), j = t ∧ t ≤ min (e.2.2 - e.2.1) 70000 ∧ n = min (e.2.2 - e.2.1) 70000 - t ∧ gl = e.2.1 + t ∧ Cov m.x.bufs bufs' ∧ On bufs' (i0 / 2) ga (e.2.1 + t) gc ∧ St F h hh [BfK KdB bufs', A.blk p (bkC m) 63, hdA 30 m.x, hdA 25 m.y, hdA 22 m.z, BfK KdV m.y.bufs, BfK KdE m.z.bufs], ⟨_, 0, _, rfl, by omega, rfl, rfl, .refl _, on, k⟩, ?_⟩
    clear k on
    rintro n h18 _ ga gl gc j ⟨t, bufs', rfl, ht, rfl, rfl, cov, on, k⟩
    refine VSome.mk ⟨_, _, _, k.rd (by rfl), tr_one (k.sl (a := m.x.a)) rfl he fun ad2 hc2 => ⟨_, _, _, hc2, ?_⟩⟩
    refine VSome.mk ⟨_, _, _, k.rd (by rfl), tr_one (k.sl (a := m.x.a)) rfl he fun ad3 hc3 => ⟨_, _, _, hc3, ?_⟩⟩
    have ew : IntKind.i64.wrap ((e.2.2 : Int) - (e.2.1 : Int)) = ((e.2.2 - e.2.1 : Nat) : Int) := by rw [wrap_id (by omega) (by omega)]; omega
    rw [ew]
    refine CallsH.mono (far_spec (e.2.2 - e.2.1)) ?_
    rintro _ _ ⟨rfl, rfl⟩
    refine ⟨_, rfl, cond_split (fun hc => ?_) (fun hc => ?_)⟩
    · have htn : t < min (e.2.2 - e.2.1) 70000 := Int.ofNat_lt.1 (of_decide_eq_true hc)
      refine ⟨by omega, CallsH.mono (pat_spec i0 (e.2.1 + t) (by omega)) ?_⟩
      rintro _ _ ⟨rfl, rfl⟩
      refine ⟨_, rfl, k.vnew fun b37 h38 k => ?_⟩
      have hs : Sl h38 (some ⟨b37, 0, none⟩) (KdB.f (i0 / 2) (e.2.1 + t)) := k.slB (b := b37)
      refine BfK.app (K := KdB) T30 und30 (by simp) k.pull1 on (Src.slice hs rfl) (by omega) fun bufs2 a2 c2 h40 cov2 on2 k => ⟨_, _, _, rfl, ?_⟩
      exact ⟨min (e.2.2 - e.2.1) 70000 - (t + 1), by omega, t + 1, bufs2, by rw [wrap_id (by omega) (by omega)]; omega, htn, rfl, rfl, cov.trans cov2, on2, k.pull1.drop⟩
    · clear hc
      refine VSome.mk ⟨_, _, _, k.rd (by rfl), ?_⟩
      rw [wrap_nat (k := i0) (m := 1099511627776000) (by omega) (by omega)]
      refine tr_set (e := (ga, e.2.1 + t, gc)) k.pull2 rfl (by omega) fun h45 k => ?_
      have el : (m.x.es.set (i0 + 1) (ga, e.2.1 + t, gc)).length = m.x.es.length := List.length_set
      refine ⟨m.x.es.length - (i0 + 2), by omega, i0 + 2, { m with x := ⟨m.x.a, m.x.c, m.x.es.set (i0 + 1) (ga, e.2.1 + t, gc), bufs'⟩ }, by rw [wrap_id (by omega) (by omega)]; omega, by omega, by show i0 + 2 ≤ (m.x.es.set (i0 + 1) (ga, e.2.1 + t, gc)).length; omega, by show _ = (m.x.es.set (i0 + 1) (ga, e.2.1 + t, gc)).length - (i0 + 2); omega, { ok with x := ok.x.set hi2 cov on, t0 := ⟨ok.t0.1, by have := ok.t0.2; show m.t0 ≤ (m.x.es.set (i0 + 1) (ga, e.2.1 + t, gc)).length; omega⟩ }, { hq with x := by show (m.x.es.set (i0 + 1) (ga, e.2.1 + t, gc)).length ≤ q; omega }, ?_⟩
      simp only [BookL, bkC, hdA, hdV, el]
      exact k.sel 7 [2, 0, 3, 4, 1, 5, 6] rfl (by decide) (by rfl)
  clear hc hi hx hev hi2
  refine VSome.mk ⟨by omega, by omega, VSome.mk ⟨_, k.rd (by rfl), ?_⟩⟩
  refine ⟨fun n hh i => ∃ (i0 : Nat) (m' : Bk), i = i0 ∧ i0 % 2 = 0 ∧ i0 ≤ m'.y.es.length ∧ n = m'.y.es.length - i0 ∧ BkOk m' ∧ BkL m' q ∧ St F h hh (BookL p m'), ⟨_, m.t1, m, rfl, ok.t1.1, ok.t1.2, rfl, ok, hq, k⟩, ?_⟩
  clear k ok hq m
  rintro n h6 _ i ⟨i0, m, rfl, hi2, hi, rfl, ok, hq, k⟩
  have hx := hq.y
  have hev := ok.y.ev
  refine VSome.mk ⟨_, _, _, k.rd (by rfl), cond_split (fun hc => ?_) (fun hc => ?_)⟩
  · have hil : i0 < m.y.es.length := Int.ofNat_lt.1 (of_decide_eq_true hc)
    obtain ⟨e, he⟩ : ∃ e, m.y.es[i0]? = some e := ⟨_, List.getElem?_eq_getElem hil⟩
    have on : On m.y.bufs (i0 / 2) e.1 e.2.1 e.2.2 := (ok.y.es i0 e he).resolve_left fun q => by omega
    have sm := ok.y.sm i0 e hi2 he
    have k : St F h h6 [BfK KdV m.y.bufs, A.blk p (bkC m) 63, hdA 30 m.x, hdA 25 m.y, hdA 22 m.z, BfK KdB m.x.bufs, BfK KdE m.z.bufs] := k.pull5
    obtain ⟨_, o2, o3⟩ := BfK.sl k on
    refine VSome.mk ⟨_, _, _, k.rd (by rfl), tr_one (k.sl (a := m.y.a)) rfl he fun ad hc1 => ⟨_, _, _, hc1, ?_⟩⟩
    refine ⟨fun n hh ga gl gc j => ∃ (t : Nat) (bufs' : List (Bf Nat)), j = t ∧ t ≤ min (e.2.2 - e.2.1) 70000 ∧ n = min (e.2.2 - e.2.1) 70000 - t ∧ gl = e.2.1 + t ∧ Cov m.y.bufs bufs' ∧ On bufs' (i0 / 2) ga (e.2.1 + t) gc ∧ St F h hh [BfK KdV bufs', A.blk p (bkC m) 63, hdA 30 m.x, hdA 25 m.y, hdA 22 m.z, BfK KdB m.x.bufs, BfK KdE m.z.bufs], ⟨_, 0, _, rfl, by omega, rfl, rfl, .refl _, on, k⟩, ?_⟩
    clear k on
    rintro n h18 _ ga gl gc j ⟨t, bufs', rfl, ht, rfl, rfl, cov, on, k⟩
    refine VSome.mk ⟨_, _, _, k.rd (by rfl), tr_one (k.sl (a := m.y.a)) rfl he fun ad2 hc2 => ⟨_, _, _, hc2, ?_⟩⟩
    refine VSome.mk ⟨_, _, _, k.rd (by rfl), tr_one (k.sl (a := m.y.a)) rfl he fun ad3 hc3 => ⟨_, _, _, hc3, ?_⟩⟩
    have ew : IntKind.i64.wrap ((e.2.2 : Int) - (e.2.1 : Int)) = ((e.2.2 - e.2.1 : Nat) : Int) := by rw [wrap_id (by omega) (by omega)]; omega
    rw [ew]
    refine CallsH.mono (far_spec (e.2.2 - e.2.1)) ?_
    rintro _ _ ⟨rfl, rfl⟩
    refine ⟨_, rfl, cond_split (fun hc => ?_) (fun hc => ?_)⟩
    · have htn : t < min (e.2.2 - e.2.1) 70000 := Int.ofNat_lt.1 (of_decide_eq_true hc)
      refine ⟨by omega, CallsH.mono (vmark_spec i0 (by omega)) ?_⟩
      rintro _ h80 ⟨rfl, m80⟩
      have k := k.next m80
      refine ⟨_, _, _, _, rfl, k.vnew fun b37 h38 k => ?_⟩
      have hs : Sl h38 (some ⟨b37, 0, none⟩) (KdV.f (i0 / 2) (e.2.1 + t)) := k.slB (b := b37)
      refine BfK.app (K := KdV) T25 und25 (by simp) k.pull1 on (Src.slice hs rfl) (by omega) fun bufs2 a2 c2 h40 cov2 on2 k => ⟨_, _, _, rfl, ?_⟩
      exact ⟨min (e.2.2 - e.2.1) 70000 - (t + 1), by omega, t + 1, bufs2, by rw [wrap_id (by omega) (by omega)]; omega, htn, rfl, rfl, cov.trans cov2, on2, k.pull1.drop⟩
    · clear hc
      refine VSome.mk ⟨_, _, _, k.rd (by rfl), ?_⟩
      rw [wrap_nat (k := i0) (m := 1099511627776000) (by omega) (by omega)]
      refine tr_set (e := (ga, e.2.1 + t, gc)) k.pull3 rfl (by omega) fun h45 k => ?_
      have el : (m.y.es.set (i0 + 1) (ga, e.2.1 + t, gc)).length = m.y.es.length := List.length_set
      refine ⟨m.y.es.length - (i0 + 2), by omega, i0 + 2, { m with y := ⟨m.y.a, m.y.c, m.y.es.set (i0 + 1) (ga, e.2.1 + t, gc), bufs'⟩ }, by rw [wrap_id (by omega) (by omega)]; omega, by omega, by show i0 + 2 ≤ (m.y.es.set (i0 + 1) (ga, e.2.1 + t, gc)).length; omega, by show _ = (m.y.es.set (i0 + 1) (ga, e.2.1 + t, gc)).length - (i0 + 2); omega, { ok with y := ok.y.set hi2 cov on, t1 := ⟨ok.t1.1, by have := ok.t1.2; show m.t1 ≤ (m.y.es.set (i0 + 1) (ga, e.2.1 + t, gc)).length; omega⟩ }, { hq with y := by show (m.y.es.set (i0 + 1) (ga, e.2.1 + t, gc)).length ≤ q; omega }, ?_⟩
      simp only [BookL, bkC, hdA, hdV, el]
      exact k.sel 7 [2, 3, 0, 4, 5, 1, 6] rfl (by decide) (by rfl)
  clear hc hi hx hev hi2
  refine VSome.mk ⟨by omega, by omega, VSome.mk ⟨_, k.rd (by rfl), ?_⟩⟩
  refine ⟨fun n hh i => ∃ (i0 : Nat) (m' : Bk), i = i0 ∧ i0 % 2 = 0 ∧ i0 ≤ m'.z.es.length ∧ n = m'.z.es.length - i0 ∧ BkOk m' ∧ BkL m' q ∧ St F h hh (BookL p m'), ⟨_, m.t2, m, rfl, ok.t2.1, ok.t2.2, rfl, ok, hq, k⟩, ?_⟩
  clear k ok hq m
  rintro n h6 _ i ⟨i0, m, rfl, hi2, hi, rfl, ok, hq, k⟩
  have hx := hq.z
  have hev := ok.z.ev
  refine VSome.mk ⟨_, _, _, k.rd (by rfl), cond_split (fun hc => ?_) (fun hc => ?_)⟩
  · have hil : i0 < m.z.es.length := Int.ofNat_lt.1 (of_decide_eq_true hc)
    obtain ⟨e, he⟩ : ∃ e, m.z.es[i0]? = some e := ⟨_, List.getElem?_eq_getElem hil⟩
    have on : On m.z.bufs (i0 / 2) e.1 e.2.1 e.2.2 := (ok.z.es i0 e he).resolve_left fun q => by omega
    have sm := ok.z.sm i0 e hi2 he
    have k : St F h h6 [BfK KdE m.z.bufs, A.blk p (bkC m) 63, hdA 30 m.x, hdA 25 m.y, hdA 22 m.z, BfK KdB m.x.bufs, BfK KdV m.y.bufs] := k.pull6
    obtain ⟨_, o2, o3⟩ := BfK.sl k on
    refine VSome.mk ⟨_, _, _, k.rd (by rfl), tr_one (k.sl (a := m.z.a)) rfl he fun ad hc1 => ⟨_, _, _, hc1, ?_⟩⟩
    refine ⟨fun n hh ga gl gc j => ∃ (t : Nat) (bufs' : List (Bf Nat)), j = t ∧ t ≤ min (e.2.2 - e.2.1) 70000 ∧ n = min (e.2.2 - e.2.1) 70000 - t ∧ gl = e.2.1 + t ∧ Cov m.z.bufs bufs' ∧ On bufs' (i0 / 2) ga (e.2.1 + t) gc ∧ St F h hh [BfK KdE bufs', A.blk p (bkC m) 63, hdA 30 m.x, hdA 25 m.y, hdA 22 m.z, BfK KdB m.x.bufs, BfK KdV m.y.bufs], ⟨_, 0, _, rfl, by omega, rfl, rfl, .refl _, on, k⟩, ?_⟩
    clear k on
    rintro n h18 _ ga gl gc j ⟨t, bufs', rfl, ht, rfl, rfl, cov, on, k⟩
    refine VSome.mk ⟨_, _, _, k.rd (by rfl), tr_one (k.sl (a := m.z.a)) rfl he fun ad2 hc2 => ⟨_, _, _, hc2, ?_⟩⟩
    refine VSome.mk ⟨_, _, _, k.rd (by rfl), tr_one (k.sl (a := m.z.a)) rfl he fun ad3 hc3 => ⟨_, _, _, hc3, ?_⟩⟩
    have ew : IntKind.i64.wrap ((e.2.2 : Int) - (e.2.1 : Int)) = ((e.2.2 - e.2.1 : Nat) : Int) := by rw [wrap_id (by omega) (by omega)]; omega
    rw [ew]
    refine CallsH.mono (far_spec (e.2.2 - e.2.1)) ?_
    rintro _ _ ⟨rfl, rfl⟩
    refine ⟨_, rfl, cond_split (fun hc => ?_) (fun hc => ?_)⟩
    · have htn : t < min (e.2.2 - e.2.1) 70000 := Int.ofNat_lt.1 (of_decide_eq_true hc)
      rw [wr2 (i := i0) (by omega)]
      refine ⟨by omega, k.vnew fun b37 h38 k => ?_⟩
      have hs : Sl h38 (some ⟨b37, 0, none⟩) (KdE.f (i0 / 2) (e.2.1 + t)) := k.slB (b := b37)
      refine BfK.app (K := KdE) T22 und22 (by simp) k.pull1 on (Src.slice hs rfl) (by omega) fun bufs2 a2 c2 h40 cov2 on2 k => ⟨_, _, _, rfl, ?_⟩
      exact ⟨min (e.2.2 - e.2.1) 70000 - (t + 1), by omega, t + 1, bufs2, by rw [wrap_id (by omega) (by omega)]; omega, htn, rfl, rfl, cov.trans cov2, on2, k.pull1.drop⟩
    · clear hc
      refine VSome.mk ⟨_, _, _, k.rd (by rfl), ?_⟩
      rw [wrap_nat (k := i0) (m := 1099511627776000) (by omega) (by omega)]
      refine tr_set (e := (ga, e.2.1 + t, gc)) k.pull4 rfl (by omega) fun h45 k => ?_
      have el : (m.z.es.set (i0 + 1) (ga, e.2.1 + t, gc)).length = m.z.es.length := List.length_set
      refine ⟨m.z.es.length - (i0 + 2), by omega, i0 + 2, { m with z := ⟨m.z.a, m.z.c, m.z.es.set (i0 + 1) (ga, e.2.1 + t, gc), bufs'⟩ }, by rw [wrap_id (by omega) (by omega)]; omega, by omega, by show i0 + 2 ≤ (m.z.es.set (i0 + 1) (ga, e.2.1 + t, gc)).length; omega, by show _ = (m.z.es.set (i0 + 1) (ga, e.2.1 + t, gc)).length - (i0 + 2); omega, { ok with z := ok.z.set hi2 cov on, t2 := ⟨ok.t2.1, by have := ok.t2.2; show m.t2 ≤ (m.z.es.set (i0 + 1) (ga, e.2.1 + t, gc)).length; omega⟩ }, { hq with z := by show (m.z.es.set (i0 + 1) (ga, e.2.1 + t, gc)).length ≤ q; omega }, ?_⟩
      simp only [BookL, bkC, hdA, hdV, el]
      exact k.sel 7 [2, 3, 4, 0, 5, 6, 1] rfl (by decide) (by rfl)
  clear hc hi hx hev hi2
  refine VSome.mk ⟨_, _, _, k.rd (by rfl), VSome.mk ⟨_, _, _, k.rd (by rfl), VSome.mk ⟨_, _, _, k.rd (by rfl), VSome.mk ?_⟩⟩⟩
  refine storeL.mkAt [.int .i64 (m.x.es.length : Int), .int .i64 (m.y.es.length : Int), .int .i64 (m.z.es.length : Int)] 0 h6 (bkC m) 4 (k.blk (b := p)) (by simp) (by simp [oneC]) fun h143 hB mo _ => ?_
  have k : St F h h143 (BookL p ⟨m.x, m.y, m.z, m.n, m.x.es.length, m.y.es.length, m.z.es.length⟩) := k.put (b := p) (cs := bkC m) (cs' := putAt (bkC m) (4 + 0) [.int .i64 (m.x.es.length : Int), .int .i64 (m.y.es.length : Int), .int .i64 (m.z.es.length : Int)]) (t := 63) hB mo
  exact ⟨rfl, ⟨m.x, m.y, m.z, m.n, m.x.es.length, m.y.es.length, m.z.es.length⟩, ⟨ok.x, ok.y, ok.z, ⟨ok.x.ev, Nat.le_refl _⟩, ⟨ok.y.ev, Nat.le_refl _⟩, ⟨ok.z.ev, Nat.le_refl _⟩⟩, ⟨hq.x, hq.y, hq.z⟩, k⟩
theorem bytes_book {m : Bk} (ok : BkOk m) (k : Holds (BookL p m ++ [BV a l c bs]) F h) (hl : l ≤ 1099511627776) (hq : BkL m q) (hb : q + 2 ≤ 4398046511104) :
    CallsH Tryd.prog 34 #[.pointer (some ⟨p, 0, none⟩), .slice a l c] h (fun v h' => v = .tuple #[] ∧ ∃ m', BkOk m' ∧ BkL m' (q + 2) ∧ St F h h' (BookL p m')) := by
  refine vf34 _ _ _ _ h _ ?_
  unfold F34
  refine CallsH.mono (fillBytes_spec ok k hl hq hb) ?_
  rintro _ h2 ⟨rfl, m2, ok2, q2, k2⟩
  obtain ⟨F2, hh, hf⟩ := k2.own
  refine ⟨rfl, CallsH.mono (grow_spec ok2 hh q2 hb) ?_⟩
  rintro _ h4 ⟨rfl, m4, ok4, q4, k4⟩
  refine ⟨rfl, rfl, m4, ok4, q4, ?_⟩
  obtain ⟨F4, hh4, hf4⟩ := k4.own
  refine ⟨k2.ext.trans k4.ext hf, F4, hh4, fun b hb => ?_⟩
  rcases hf4 b hb with h1 | h1
  · exact hf b h1
  · exact .inr (Nat.le_trans k2.ext.size h1)
end Go.Proofs.YtofaihacmoacjaaDoor.F
/-! ## The laws of the wire: a list of events is taken into the book. -/
namespace Go.Proofs.YtofaihacmoacjaaDoor.F
open Go Go.VC Go.Proofs
set_option linter.unusedSimpArgs false
set_option linter.unusedVariables false
set_option maxRecDepth 100000
attribute [local irreducible] CallsH RunsTo PureTo

variable {S F G : Nat → Prop} {h0 h h1 : Heap} {L R L' : List A} {a b0 la wa : Option Addr} {l c l2 c2 p b cl cw q : Nat} {bs cs : List UInt8} {es : List Ev}
theorem fillEvents_spec {m : Bk} (ok : BkOk m) (k : Holds (BookL p m ++ [LE a l c es]) F h) (hl : l ≤ 1099511627776) (hv : ∀ e ∈ es, e.vs.length ≤ 1099511627776) (hq : BkL m q) (hb : q + 2 * l + 2 ≤ 4398046511104) :
    CallsH Tryd.prog 66 #[.pointer (some ⟨p, 0, none⟩), .slice a l c] h (fun v h' => v = .tuple #[] ∧ ∃ m', BkOk m' ∧ BkL m' (q + 2 * l + 2) ∧ St F h h' (BookL p m')) := by
  refine vf66 _ _ _ _ h _ ?_
  unfold F66
  replace k : St F h h (LE a l c es :: BookL p m) := St.pull7 (St.start k)
  have hle := (LE.len k).1
  obtain ⟨xs, he, w⟩ := LE.open k
  clear k
  have k := w
  clear w
  have hxl : xs.length = l := by rw [← hle, ← he, List.length_map]
  have hlc := (k.vec (a := a)).1.le
  have hcc := (k.vec (a := a)).2.2
  refine ⟨fun n hh i => ∃ (j : Nat) (m' : Bk), i = j ∧ j ≤ l ∧ n = l - j ∧ BkOk m' ∧ BkL m' (q + 2 * j) ∧ St F h hh (A.vec 27 3 a l c (xs.flatMap seV) :: A.all ((xs.drop j).map VSe) :: BookL p m'), ⟨_, 0, m, rfl, by omega, rfl, ok, hq, k⟩, ?_⟩
  clear k ok hq m
  rintro n hh _ i ⟨j, m, rfl, hj, rfl, ok, hq, k⟩
  have hx := hq.x
  have hy := hq.y
  have hz := hq.z
  refine cond_split (fun hc => ?_) (fun hc => ?_)
  · have hjl : j < l := Int.ofNat_lt.1 (of_decide_eq_true hc)
    have hjx : j < xs.length := by omega
    have hdrop : (xs.drop j).map VSe = VSe xs[j] :: (xs.drop (j + 1)).map VSe := by rw [List.drop_eq_getElem_cons hjx]; rfl
    refine ⟨fun h' _ _ _ _ _ => ∃ m', BkOk m' ∧ BkL m' (q + 2 * (j + 1)) ∧ St F h h' (A.vec 27 3 a l c (xs.flatMap seV) :: A.all ((xs.drop (j + 1)).map VSe) :: BookL p m'), ?_, ?_⟩
    rotate_left
    · rintro h41 _ _ _ _ _ _ ⟨m', ok', hq', k'⟩
      exact ⟨l - (j + 1), by omega, j + 1, m', wrap_nat hjl (by omega), hjl, rfl, ok', hq', k'⟩
    have hxm : xs[j] ∈ xs := List.getElem_mem hjx
    have hvx : xs[j].e.vs.length ≤ 1099511627776 := hv _ (by rw [← he]; exact List.mem_map_of_mem hxm)
    have hxj : xs[j]? = some xs[j] := List.getElem?_eq_getElem hjx
    rw [hdrop] at k
    generalize xs[j] = x at *
    refine Sl.row (f := seV) seV_len (k.sl (a := a)) (by omega) hxl (by omega) (by omega) fun ad y hy2 hcy => ?_
    rw [Int.toNat_natCast, hxj] at hy2
    obtain rfl : x = y := by cases hy2; rfl
    have d2 : cellH hh ⟨ad.block, ad.off + 2, none⟩ = some (.slice x.a x.e.vs.length x.c) := hcy 2 _ rfl
    refine ⟨_, _, _, d2, VSome.mk ⟨_, _, _, k.rd (by rfl), by omega, ?_⟩⟩
    have k := k.pull1.allOut
    have hvl : (x.e.vs.flatMap valV).length = x.e.vs.length * KdV.sz := flatMap_len (f := valV) (sz := 4) (fun _ => rfl) _
    have k : St F h hh (A.vec 83 4 x.a x.e.vs.length x.c (half KdV (m.y.es.length / 2) (x.e.vs.flatMap valV) 0) :: A.all ((xs.drop (j + 1)).map VSe) :: A.vec 27 3 a l c (xs.flatMap seV) :: BookL p m) := by rw [half_0]; exact k
    generalize hvs : x.e.vs.length = vl at *
    refine ⟨fun n hh i => ∃ r : Nat, i = r ∧ r ≤ vl ∧ n = vl - r ∧ St F h hh (A.vec 83 4 x.a vl x.c (half KdV (m.y.es.length / 2) (x.e.vs.flatMap valV) r) :: A.all ((xs.drop (j + 1)).map VSe) :: A.vec 27 3 a l c (xs.flatMap seV) :: BookL p m), ⟨_, 0, rfl, by omega, rfl, k⟩, ?_⟩
    clear k hcy d2
    rintro n h14 _ i ⟨r, rfl, hr, rfl, k⟩
    refine cond_split (fun hc => ?_) (fun hc => ?_)
    · have hrl : r < vl := Int.ofNat_lt.1 (of_decide_eq_true hc)
      refine CallsH.mono (vmark_spec m.y.es.length (by omega)) ?_
      rintro _ h19 ⟨rfl, m19⟩
      have k := k.next m19
      refine ⟨_, _, _, _, rfl, k.vix hrl fun g o ha => ?_⟩
      have k : St F h h19 (A.vec KdV.e KdV.sz (some ⟨g, o, none⟩) vl x.c (half KdV (m.y.es.length / 2) (x.e.vs.flatMap valV) r) :: A.all ((xs.drop (j + 1)).map VSe) :: A.vec 27 3 a l c (xs.flatMap seV) :: BookL p m) := ha ▸ k
      refine half_put (K := KdV) k hrl fun h' k => ⟨vl - (r + 1), by omega, r + 1, wrap_nat hrl (by omega), hrl, rfl, ?_⟩
      rw [← ha] at k
      exact k
    · have hrl : r = vl := by
        have : ¬ (r : Int) < vl := of_decide_eq_false hc
        omega
      subst hrl
      rw [half_all hvl] at k
      refine VSome.mk ⟨_, k.rd (by rfl), VSome.mk (k.vst (by simp) fun h17 k => VSome.mk ⟨_, k.rd (by rfl), cond_split (fun hc => ?_) (fun hc => ?_)⟩)⟩
      · refine VSome.mk ⟨_, _, _, k.rd (by rfl), k.vnew fun b22 h23 k => ?_⟩
        have hs : Sl h23 (some ⟨b22, 0, none⟩) [.slice x.a r x.c, .slice none 0 0] := k.slB (b := b22)
        refine k.pull6.app T49 und49 (by simp) (Src.slice hs rfl) (by simp [oneC]) (by omega) fun a26 c26 h25 k => ⟨_, _, _, rfl, VSome.mk (k.vst (by simp) fun h28 k => ?_)⟩
        -- [Y', b22, vec, rest, evs, P, X, Z, BX, BY, BZ]
        have k := ((k.pull9.pull3.re (y := bfK KdV ⟨m.y.es.length / 2, x.a, r, x.c⟩) rfl).allIn (L := m.y.bufs.map (bfK KdV))).pull2.drop
        -- [BY', Y', rest, evs, P, X, Z, BX, BZ]
        have e1 : (m.y.es ++ [(x.a, r, x.c), nilT]).length = m.y.es.length + 2 := by simp
        have e2 : (m.y.es ++ [(x.a, r, x.c), nilT]).map trV = m.y.es.map trV ++ [.slice x.a r x.c, .slice none 0 0] := by rw [List.map_append]; rfl
        have t1 := ok.t1
        refine ⟨⟨m.x, ⟨a26, c26, m.y.es ++ [(x.a, r, x.c), nilT], ⟨m.y.es.length / 2, x.a, r, x.c⟩ :: m.y.bufs⟩, m.z, IntKind.i64.wrap (IntKind.i64.wrap (m.n + 800) + IntKind.i64.wrap (90 * (r : Int))), m.t0, m.t1, m.t2⟩, ⟨ok.x, ok.y.add hvx, ok.z, ok.t0, ⟨t1.1, ?_⟩, ok.t2⟩, ⟨by show m.x.es.length ≤ _; omega, ?_, by show m.z.es.length ≤ _; omega⟩, ?_⟩
        rotate_left 2
        · simp only [BookL, bkC, hdA, hdV, e1, e2]
          exact k.sel 9 [3, 2, 4, 5, 1, 6, 7, 0, 8] rfl (by decide) (by rfl)
        · show m.t1 ≤ (m.y.es ++ [(x.a, r, x.c), nilT]).length
          omega
        · show (m.y.es ++ [(x.a, r, x.c), nilT]).length ≤ _
          omega
      · refine ⟨⟨m.x, m.y, m.z, IntKind.i64.wrap (IntKind.i64.wrap (m.n + 800) + IntKind.i64.wrap (90 * (r : Int))), m.t0, m.t1, m.t2⟩, ⟨ok.x, ok.y, ok.z, ok.t0, ok.t1, ok.t2⟩, ⟨by show m.x.es.length ≤ _; omega, by show m.y.es.length ≤ _; omega, by show m.z.es.length ≤ _; omega⟩, ?_⟩
        exact k.drop.pull1
  · have hjl : j = l := by
      have : ¬ (j : Int) < l := of_decide_eq_false hc
      omega
    subst hjl
    clear hc
    have hvl : (xs.flatMap seV).length = j * KdE.sz := by rw [flatMap_len (f := seV) (sz := 3) seV_len, hxl]; rfl
    have k : St F h hh (A.vec 27 3 a j c (xs.flatMap seV) :: BookL p m) := k.pull1.drop
    refine VSome.mk ⟨_, _, _, k.rd (by rfl), by omega, ?_⟩
    have k : St F h hh (A.vec 27 3 a j c (half KdE (m.z.es.length / 2) (xs.flatMap seV) 0) :: BookL p m) := by rw [half_0]; exact k
    refine ⟨fun n hh i => ∃ r : Nat, i = r ∧ r ≤ j ∧ n = j - r ∧ St F h hh (A.vec 27 3 a j c (half KdE (m.z.es.length / 2) (xs.flatMap seV) r) :: BookL p m), ⟨_, 0, rfl, by omega, rfl, k⟩, ?_⟩
    clear k
    rintro n h50 _ i ⟨r, rfl, hr, rfl, k⟩
    refine cond_split (fun hc => ?_) (fun hc => ?_)
    · have hrl : r < j := Int.ofNat_lt.1 (of_decide_eq_true hc)
      rw [wr2 (i := m.z.es.length) (by omega)]
      refine k.vix hrl fun g o ha => ?_
      have k : St F h h50 (A.vec KdE.e KdE.sz (some ⟨g, o, none⟩) j c (half KdE (m.z.es.length / 2) (xs.flatMap seV) r) :: BookL p m) := ha ▸ k
      refine half_put (K := KdE) k hrl fun h' k => ⟨j - (r + 1), by omega, r + 1, wrap_nat hrl (by omega), hrl, rfl, ?_⟩
      rw [← ha] at k
      exact k
    · have hrl : r = j := by
        have : ¬ (r : Int) < j := of_decide_eq_false hc
        omega
      subst hrl
      rw [half_all hvl] at k
      refine VSome.mk ⟨_, k.rd (by rfl), VSome.mk (k.vst (by simp) fun h17 k => VSome.mk ⟨_, k.rd (by rfl), cond_split (fun hc => ?_) (fun hc => ?_)⟩)⟩
      · refine VSome.mk ⟨_, _, _, k.rd (by rfl), k.vnew fun b22 h23 k => ?_⟩
        have hs : Sl h23 (some ⟨b22, 0, none⟩) [.slice a r c, .slice none 0 0] := k.slB (b := b22)
        refine k.pull5.app T48 und48 (by simp) (Src.slice hs rfl) (by simp [oneC]) (by omega) fun a26 c26 h25 k => ⟨_, _, _, rfl, VSome.mk (k.vst (by simp) fun h28 k => ⟨rfl, ?_⟩)⟩
        -- [Z', b22, vec, P, X, Y, BX, BY, BZ]
        have k := ((k.pull8.pull3.re (y := bfK KdE ⟨m.z.es.length / 2, a, r, c⟩) rfl).allIn (L := m.z.bufs.map (bfK KdE))).pull2.drop
        -- [BZ', Z', P, X, Y, BX, BY]
        have e1 : (m.z.es ++ [(a, r, c), nilT]).length = m.z.es.length + 2 := by simp
        have e2 : (m.z.es ++ [(a, r, c), nilT]).map trV = m.z.es.map trV ++ [.slice a r c, .slice none 0 0] := by rw [List.map_append]; rfl
        have t2 := ok.t2
        refine ⟨⟨m.x, m.y, ⟨a26, c26, m.z.es ++ [(a, r, c), nilT], ⟨m.z.es.length / 2, a, r, c⟩ :: m.z.bufs⟩, IntKind.i64.wrap (IntKind.i64.wrap (m.n + 800) + IntKind.i64.wrap (100 * (r : Int))), m.t0, m.t1, m.t2⟩, ⟨ok.x, ok.y, ok.z.add hl, ok.t0, ok.t1, ⟨t2.1, ?_⟩⟩, ⟨by show m.x.es.length ≤ _; omega, by show m.y.es.length ≤ _; omega, ?_⟩, ?_⟩
        rotate_left 2
        · simp only [BookL, bkC, hdA, hdV, e1, e2]
          exact k.sel 7 [2, 3, 4, 1, 5, 6, 0] rfl (by decide) (by rfl)
        · show m.t2 ≤ (m.z.es ++ [(a, r, c), nilT]).length
          omega
        · show (m.z.es ++ [(a, r, c), nilT]).length ≤ _
          omega
      · exact ⟨rfl, ⟨m.x, m.y, m.z, IntKind.i64.wrap (IntKind.i64.wrap (m.n + 800) + IntKind.i64.wrap (100 * (r : Int))), m.t0, m.t1, m.t2⟩, ⟨ok.x, ok.y, ok.z, ok.t0, ok.t1, ok.t2⟩, ⟨by show m.x.es.length ≤ _; omega, by show m.y.es.length ≤ _; omega, by show m.z.es.length ≤ _; omega⟩, k.drop⟩
theorem St.after {h2 : Heap} {F : Nat → Prop} {L2 : List A} (k : St S h0 h L) {k1 : Holds L F h} (hf : ∀ b, F b → S b ∨ h0.size ≤ b) (k2 : St F h h2 L2) : St S h0 h2 L2 := by
  obtain ⟨F4, hh4, hf4⟩ := k2.own
  refine ⟨k.ext.trans k2.ext hf, F4, hh4, fun b hb => ?_⟩
  rcases hf4 b hb with h1 | h1
  · exact hf b h1
  · exact .inr (Nat.le_trans k.ext.size h1)
theorem events_book {m : Bk} (ok : BkOk m) (k : Holds (BookL p m ++ [LE a l c es]) F h) (hl : l ≤ 1099511627776) (hv : ∀ e ∈ es, e.vs.length ≤ 1099511627776) (hq : BkL m q) (hb : q + 2 * l + 2 ≤ 4398046511104) :
    CallsH Tryd.prog 36 #[.pointer (some ⟨p, 0, none⟩), .slice a l c] h (fun v h' => v = .tuple #[] ∧ ∃ m', BkOk m' ∧ BkL m' (q + 2 * l + 2) ∧ St F h h' (BookL p m')) := by
  refine vf36 _ _ _ _ h _ ?_
  unfold F36
  refine CallsH.mono (fillEvents_spec ok k hl hv hq hb) ?_
  rintro _ h2 ⟨rfl, m2, ok2, q2, k2⟩
  obtain ⟨F2, hh, hf⟩ := k2.own
  refine ⟨rfl, CallsH.mono (grow_spec ok2 hh q2 hb) ?_⟩
  rintro _ h4 ⟨rfl, m4, ok4, q4, k4⟩
  exact ⟨rfl, rfl, m4, ok4, q4, St.after (k1 := hh) k2 hf k4⟩
end Go.Proofs.YtofaihacmoacjaaDoor.F
