/- Marks; a column of lists, each with what it became when it was written on. Conditions: none. -/
import Derived.Test.YtgdgebmlcgohhaaGreatDoorZ3
import Derived.Test.YtgdgebmlcgohhaaGreatDoorGC
namespace Go.Proofs.YtgdgebmlcgohhaaGreatDoor.F
open Go Go.VC Go.Proofs
set_option linter.unusedSimpArgs false
set_option linter.unusedVariables false
set_option maxRecDepth 100000
attribute [local irreducible] CallsH RunsTo PureTo

variable {S F G : Nat → Prop} {h0 h h1 : Heap} {L R L' : List A} {a b0 la wa : Option Addr} {l c l2 c2 p b cl cw q g : Nat} {bs cs : List UInt8}
theorem _root_.Go.VC.St.vaddr {e sz : Nat} {vs : List Value} (k : St S h0 h (A.vec e sz a l c vs :: R)) (hc : 0 < c) : ∃ g o, a = some ⟨g, o, none⟩ := by
  obtain ⟨q, _, _⟩ := St.vec (a := a) k
  rcases q.room with h1 | ⟨g, o, cur, rfl, _⟩
  · omega
  · exact ⟨g, o, rfl⟩
theorem _root_.Go.VC.St.vix {e sz : Nat} {vs : List Value} {i : Nat} {K : Addr → Prop} (k : St S h0 h (A.vec e sz a l c vs :: R)) (hi : i < l) (q : ∀ g o, a = some ⟨g, o, none⟩ → K ⟨g, o + i * sz, none⟩) : VIdx a l (i : Int) sz K := by
  obtain ⟨v, _, _⟩ := St.vec (a := a) k
  have := v.le
  obtain ⟨g, o, rfl⟩ := k.vaddr (by omega)
  refine ⟨by omega, by omega, VSome.mk ?_⟩
  rw [Int.toNat_natCast, VC.add_plain]
  exact q g o rfl
/-- An element of a slice that is held is written. -/
theorem _root_.Go.VC.St.vput {e sz g o i : Nat} {vs ws : List Value} (k : St S h0 h (A.vec e sz (some ⟨g, o, none⟩) l c vs :: R)) (hi : i < l) (hw : ws.length = sz) (hone : ∀ v ∈ ws, oneC v = true) {K : Heap → Prop}
    (q : ∀ h', St S h0 h' (A.vec e sz (some ⟨g, o, none⟩) l c (vs.take (i * sz) ++ ws ++ vs.drop ((i + 1) * sz)) :: R) → K h') : storeL ⟨g, o + i * sz, none⟩ 0 ws h K := by
  obtain ⟨F, G, k1, kG, d, hf, back⟩ := k.frameA
  obtain ⟨hv, hF, hs, hc⟩ := k1.one
  rcases hv.room with h00 | ⟨g', o', cur, e1, hB, hsz⟩
  · have := hv.le; omega
  · cases e1
    have hle := hv.le
    have hlen := hv.len
    have hil : (i + 1) * sz ≤ l * sz := Nat.mul_le_mul_right sz hi
    have hlc : l * sz ≤ c * sz := Nat.mul_le_mul_right sz hle
    have his : (i + 1) * sz = i * sz + sz := Nat.succ_mul _ _
    have h2 : (vs.take (i * sz)).length = i * sz := by rw [List.length_take]; omega
    refine storeL.mkAt ws 0 h cur (o + i * sz) hB (by omega) hone fun h1 hB1 m s => q h1 (back ⟨m.mono fun b hb => by subst hb; exact .inl ((hF _).2 ⟨by omega, rfl⟩), F, .mk1 ⟨⟨?_, hle, ?_, .inr ⟨g, o, _, rfl, hB1, by rw [putAt_size]; exact hsz⟩⟩, hF, hs, hc⟩, fun b hb => .inl hb⟩)
    · rw [List.length_append, List.length_append, h2, hw, List.length_drop, hlen]; omega
    · refine hB1.sl o fun j u hj => ?_
      rw [Nat.add_zero, putAt_get _ _ _ _ (by omega)]
      by_cases e2 : j < i * sz
      · rw [List.append_assoc, List.getElem?_append_left (by omega), List.getElem?_take, if_pos e2] at hj
        rw [if_neg (by omega)]
        exact hv.at hB j u hj
      · by_cases e3 : j < i * sz + sz
        · rw [List.append_assoc, List.getElem?_append_right (by omega), h2, List.getElem?_append_left (by omega)] at hj
          rw [if_pos (by omega), show o + j - (o + i * sz) = j - i * sz by omega]
          exact hj
        · rw [List.getElem?_append_right (by rw [List.length_append]; omega), List.length_append, h2, hw, List.getElem?_drop, his, show i * sz + sz + (j - (i * sz + sz)) = j by omega] at hj
          rw [if_neg (by omega)]
          exact hv.at hB j u hj
theorem storeOne.back {h : Heap} {a : Addr} {v : Value} {K : Heap → Prop} (hv : oneC v = true) (k : storeOne h a v K) : VStore h a v K := by
  cases v <;> first | exact k | (simp [oneC] at hv)
def mrk (q k : Nat) : UInt8 := UInt8.ofNat ((1 + q) / 2 ^ (8 * (k % 3)))
def KdB : Kd := ⟨5, 1, fun q k => [byteV (mrk q k)], fun _ _ => rfl, fun _ _ v hv => by rw [List.mem_singleton.1 hv]; rfl, by omega⟩
theorem mark_spec (i k : Nat) (hi : i < 4611686018427387904) : CallsH Tryz.prog 40 #[.int .i64 i, .int .i64 k] h (fun v h' => v = byteV (mrk (i / 3) k) ∧ h' = h) := by
  refine vf40 _ _ h _ ?_
  unfold F40
  have e1 : Int.tmod (k : Int) 3 = ((k % 3 : Nat) : Int) := rfl
  have e2 : Int.tdiv (i : Int) 3 = ((i / 3 : Nat) : Int) := rfl
  have h3 : k % 3 < 3 := Nat.mod_lt _ (by omega)
  have e3 : IntKind.i64.wrap (8 * ((k % 3 : Nat) : Int)) = ((8 * (k % 3) : Nat) : Int) := by rw [wrap_id (by omega) (by omega)]; omega
  have e4 : IntKind.i64.wrap (1 + IntKind.i64.wrap ((i / 3 : Nat) : Int)) = ((1 + i / 3 : Nat) : Int) := by rw [wrap_id (n := ((i / 3 : Nat) : Int)) (by omega) (by omega), wrap_id (by omega) (by omega)]; omega
  rw [e1, e2, e3, e4]
  refine ⟨by omega, by omega, by omega, ?_, rfl⟩
  rw [Int.toNat_natCast, show IntKind.bits .i64 = 64 from rfl, Nat.min_eq_left (by omega), wrap_u8, Int.fdiv_eq_ediv_of_nonneg _ (Int.pow_nonneg (by omega)), mrk, byteV_of]
  congr 1
theorem room_spec (n : Nat) : CallsH Tryz.prog 42 #[.int .i64 n] h (fun v h' => v = .int .i64 ((min n 70000 : Nat) : Int) ∧ h' = h) := by
  refine vf42 _ h _ ?_
  unfold F42
  refine ⟨?_, rfl⟩
  congr 1
  unfold minI
  split <;> omega
/-! ### A list that is filled by a pattern -/
def half (K : Kd) (t : Nat) (vs : List Value) (r : Nat) : List Value := patR K.f t r ++ vs.drop (r * K.sz)
theorem half_0 (K : Kd) (t : Nat) (vs : List Value) : half K t vs 0 = vs := by simp [half, patR]
theorem half_all {K : Kd} {t : Nat} {vs : List Value} (hl : vs.length = l * K.sz) : half K t vs l = patR K.f t l := by
  unfold half
  rw [List.drop_of_length_le (by omega), List.append_nil]
theorem half_put {K : Kd} {t : Nat} {vs : List Value} {g o r : Nat} {Q : Heap → Prop} (k : St S h0 h (A.vec K.e K.sz (some ⟨g, o, none⟩) l c (half K t vs r) :: R)) (hr : r < l)
    (q : ∀ h', St S h0 h' (A.vec K.e K.sz (some ⟨g, o, none⟩) l c (half K t vs (r + 1)) :: R) → Q h') : storeL ⟨g, o + r * K.sz, none⟩ 0 (K.f t r) h Q := by
  refine k.vput hr (K.hf t r) (K.ho t r) fun h' k => q h' ?_
  have hs : (r + 1) * K.sz = r * K.sz + K.sz := Nat.succ_mul _ _
  have hp := patR_len K t r
  have e : (half K t vs r).take (r * K.sz) ++ K.f t r ++ (half K t vs r).drop ((r + 1) * K.sz) = half K t vs (r + 1) := by
    unfold half
    rw [List.take_append, List.take_of_length_le (by omega), hp, Nat.sub_self, List.take_zero, List.append_nil, patR_next, List.drop_append, List.drop_of_length_le (by omega), List.nil_append, List.drop_drop, hp]
    congr 2
    omega
  rwa [e] at k
theorem half_byte {t : Nat} {vs : List Value} {g o r : Nat} {Q : Heap → Prop} (k : St S h0 h (A.vec 5 1 (some ⟨g, o, none⟩) l c (half KdB t vs r) :: R)) (hr : r < l)
    (q : ∀ h', St S h0 h' (A.vec 5 1 (some ⟨g, o, none⟩) l c (half KdB t vs (r + 1)) :: R) → Q h') : VStore h ⟨g, o + r * 1, none⟩ (byteV (mrk t r)) Q :=
  storeOne.back rfl (half_put (K := KdB) k hr q)
/-! ### A column -/
abbrev Tr := Option Addr × Nat × Nat
def trV (t : Tr) : Value := .slice t.1 t.2.1 t.2.2
theorem oneC_tr (es : List Tr) : ∀ v ∈ es.map trV, oneC v = true := by
  intro v hv
  obtain ⟨b, _, rfl⟩ := List.mem_map.1 hv
  rfl
abbrev nilT : Tr := (none, 0, 0)
theorem tr_one {es : List Tr} {i n : Nat} {e : Tr} {K : Addr → Prop} (hs : Sl h a (es.map trV)) (hn : es.length = n) (he : es[i]? = some e) (q : ∀ ad, cellH h ad = some (trV e) → K ad) : VIdx a n (i : Int) 1 K := by
  subst hn
  have hlt := (List.getElem?_eq_some_iff.1 he).1
  refine hs.one rfl (by omega) (by omega) fun ad x hx hc => ?_
  rw [Int.toNat_natCast, he] at hx
  cases hx
  exact q ad hc
theorem tr_set {e2 n i : Nat} {es : List Tr} {e : Tr} {K : Heap → Prop} (k : St S h0 h (A.vec e2 1 a n c (es.map trV) :: R)) (hl : es.length = n) (hi : i < n) (q : ∀ h', St S h0 h' (A.vec e2 1 a n c ((es.set i e).map trV) :: R) → K h') : VIdx a n (i : Int) 1 fun ad => VStore h ad (trV e) K := by
  refine k.vix hi fun g o ha => ?_
  subst ha
  have := k.vput (ws := [trV e]) hi rfl (by simp [trV, oneC]) (K := K) fun h' k => q h' (by
    rw [Nat.mul_one, Nat.mul_one] at k
    rw [List.map_set, List.set_eq_take_append_cons_drop, if_pos (by rw [List.length_map]; omega)]
    simpa using k)
  exact storeOne.back rfl this
structure Cm where
  a : Option Addr
  c : Nat
  es : List Tr
  bufs : List (Bf Nat)
abbrev hdA (e : Nat) (m : Cm) : A := A.vec e 1 m.a m.es.length m.c (m.es.map trV)
abbrev hdV (m : Cm) : Value := .slice m.a m.es.length m.c
/-- Groups of g: the first of each was handed out, the others are what it became. -/
structure CgOk (g : Nat) (m : Cm) : Prop where
  ev : m.es.length % g = 0
  es : ∀ (i : Nat) e, m.es[i]? = some e → (i % g ≠ 0 ∧ e = nilT) ∨ On m.bufs (i / g) e.1 e.2.1 e.2.2
  sm : ∀ (i : Nat) e, i % g = 0 → m.es[i]? = some e → e.2.1 ≤ 1099511627776
theorem CgOk.nil (g : Nat) : CgOk g ⟨none, 0, [], []⟩ := ⟨Nat.zero_mod _, fun i e h => by simp at h, fun i e _ h => by simp at h⟩
theorem CgOk.set {m : Cm} (k : CgOk g m) {i r : Nat} (hg : 0 < g) (hi : i % g = 0) (hr : 0 < r) (hrg : r < g) {e : Tr} {bufs' : List (Bf Nat)} (cov : Cov m.bufs bufs') (on : On bufs' (i / g) e.1 e.2.1 e.2.2) : CgOk g ⟨m.a, m.c, m.es.set (i + r) e, bufs'⟩ := by
  have hdv : (i + r) / g = i / g := by
    obtain ⟨d, rfl⟩ : ∃ d, i = g * d := ⟨i / g, (Nat.mul_div_cancel' (Nat.dvd_of_mod_eq_zero hi)).symm⟩
    rw [Nat.mul_add_div hg, Nat.mul_div_cancel_left _ hg, Nat.div_eq_of_lt hrg]; rfl
  have hmd : (i + r) % g = r := by rw [Nat.add_mod, hi, Nat.zero_add, Nat.mod_mod, Nat.mod_eq_of_lt hrg]
  refine ⟨by show (m.es.set (i + r) e).length % g = 0; rw [List.length_set]; exact k.ev, fun j e' h => ?_, fun j e' hj h => ?_⟩
  · replace h : (m.es.set (i + r) e)[j]? = some e' := h
    rw [List.getElem?_set] at h
    split at h
    · rename_i hij
      subst hij
      split at h
      · cases h
        refine .inr ?_
        rw [hdv]; exact on
      · cases h
    · exact (k.es j e' h).imp id fun o => o.cov cov
  · have h : (m.es.set (i + r) e)[j]? = some e' := h
    rw [List.getElem?_set_ne (by intro h2; rw [← h2, hmd] at hj; omega)] at h
    exact k.sm j e' hj h
theorem CgOk.cov {m : Cm} (k : CgOk g m) {bufs' : List (Bf Nat)} (cov : Cov m.bufs bufs') : CgOk g ⟨m.a, m.c, m.es, bufs'⟩ := ⟨k.ev, fun i e h => (k.es i e h).imp id fun o => o.cov cov, k.sm⟩
theorem CgOk.add {m : Cm} {n : Nat} (k : CgOk (n + 1) m) (hl : l ≤ 1099511627776) {a2 : Option Addr} : CgOk (n + 1) ⟨a2, c2, m.es ++ (a, l, c) :: List.replicate n nilT, ⟨m.es.length / (n + 1), a, l, c⟩ :: m.bufs⟩ := by
  have hev := k.ev
  have hlen : ((a, l, c) :: List.replicate n nilT).length = n + 1 := by simp
  refine ⟨by show (m.es ++ (a, l, c) :: List.replicate n nilT).length % (n + 1) = 0; rw [List.length_append, hlen, Nat.add_mod_right]; exact hev, fun i e he => ?_, fun i e hi he => ?_⟩
  · have he : (m.es ++ (a, l, c) :: List.replicate n nilT)[i]? = some e := he
    by_cases h2 : i < m.es.length
    · rw [List.getElem?_append_left h2] at he
      exact (k.es i e he).imp id fun o => o.cov (Cov.cons _ _)
    · rw [List.getElem?_append_right (by omega)] at he
      have hi2 := (List.getElem?_eq_some_iff.1 he).1
      rw [hlen] at hi2
      obtain ⟨d, hd⟩ : ∃ d, m.es.length = (n + 1) * d := ⟨m.es.length / (n + 1), (Nat.mul_div_cancel' (Nat.dvd_of_mod_eq_zero hev)).symm⟩
      cases hr : i - m.es.length with
      | zero =>
        rw [hr] at he; cases he
        refine .inr ⟨_, List.mem_cons_self, ?_, rfl, rfl, Nat.le_refl _⟩
        show m.es.length / (n + 1) = i / (n + 1)
        rw [show i = m.es.length by omega]
      | succ r =>
        rw [hr] at he
        simp only [List.getElem?_cons_succ, List.getElem?_replicate] at he
        split at he
        · cases he
          refine .inl ⟨?_, rfl⟩
          have e1 : i = (n + 1) * d + (r + 1) := by omega
          rw [e1, Nat.mul_add_mod, Nat.mod_eq_of_lt (by omega)]
          omega
        · cases he
  · have he : (m.es ++ (a, l, c) :: List.replicate n nilT)[i]? = some e := he
    by_cases h2 : i < m.es.length
    · rw [List.getElem?_append_left h2] at he
      exact k.sm i e hi he
    · rw [List.getElem?_append_right (by omega)] at he
      have hi2 := (List.getElem?_eq_some_iff.1 he).1
      rw [hlen] at hi2
      obtain ⟨d, hd⟩ : ∃ d, m.es.length = (n + 1) * d := ⟨m.es.length / (n + 1), (Nat.mul_div_cancel' (Nat.dvd_of_mod_eq_zero hev)).symm⟩
      cases hr : i - m.es.length with
      | zero => rw [hr] at he; cases he; exact hl
      | succ r =>
        exfalso
        have e1 : i = (n + 1) * d + (r + 1) := by omega
        rw [e1, Nat.mul_add_mod, Nat.mod_eq_of_lt (by omega)] at hi
        omega
/-- A column, as it may be read. -/
structure ColR (K : Kd) (g : Nat) (h : Heap) (m : Cm) : Prop where
  hd : Sl h m.a (m.es.map trV)
  es : ∀ (i : Nat) e, m.es[i]? = some e → Sl h e.1 (patR K.f (i / g) e.2.1) ∧ e.2.1 < 9223372036854775808
  len : m.es.length < 1152921504606846976
theorem ColR.ext {K : Kd} {m : Cm} (k : ColR K g h m) (x : Ext h h1) : ColR K g h1 m := ⟨k.hd.ext x, fun i e he => ⟨(k.es i e he).1.ext x, (k.es i e he).2⟩, k.len⟩
theorem CgOk.r {K : Kd} {m : Cm} {e : Nat} (ok : CgOk g m) (k : St S h0 h (hdA e m :: R)) (k2 : St S h0 h (BfK K m.bufs :: L)) (hl : m.es.length < 1152921504606846976) : ColR K g h m :=
  ⟨k.sl (a := m.a), fun i e he => by
    rcases ok.es i e he with ⟨_, rfl⟩ | o
    · exact ⟨Sl.nil _ _, by show 0 < _; omega⟩
    · obtain ⟨o1, o2, o3⟩ := BfK.sl k2 o
      exact ⟨o1, by omega⟩, hl⟩
/-! ### A list of bytes is written on -/
theorem longer_spec {xs : List (Bf Nat)} {i n : Nat} (hi : i < 4611686018427387904) (k0 : Holds [BfK KdB xs] F h) (on : On xs (i / 3) a l c) (hb : l + n ≤ 4398046511104) :
    CallsH Tryz.prog 41 #[.slice a l c, .int .i64 (i : Int), .int .i64 (n : Int)] h (fun v h' => ∃ xs' a' c', v = .slice a' (l + n) c' ∧ Cov xs xs' ∧ On xs' (i / 3) a' (l + n) c' ∧ St F h h' [BfK KdB xs']) := by
  refine vf41 _ _ _ _ _ h _ ?_
  unfold F41
  refine ⟨fun m h' a' l' c' x => ∃ (j : Nat) (xs' : List (Bf Nat)), x = j ∧ j ≤ n ∧ m = n - j ∧ l' = l + j ∧ Cov xs xs' ∧ On xs' (i / 3) a' (l + j) c' ∧ St F h h' [BfK KdB xs'], ⟨_, 0, xs, rfl, Nat.zero_le _, rfl, rfl, Cov.refl _, on, St.start k0⟩, ?_⟩
  rintro m h3 _ a' l' c' x ⟨j, xs', rfl, hj, rfl, rfl, cov, on', k⟩
  refine cond_split (fun hc => ?_) (fun hc => ?_)
  · have hjl : j < n := Int.ofNat_lt.1 (of_decide_eq_true hc)
    refine CallsH.mono (mark_spec i (l + j) hi) ?_
    rintro _ _ ⟨rfl, rfl⟩
    refine ⟨_, rfl, k.vnew fun b11 h12 k => ?_⟩
    have hs : Sl h12 (some ⟨b11, 0, none⟩) (KdB.f (i / 3) (l + j)) := k.slB (b := b11)
    refine BfK.app (K := KdB) T30 und30 (by simp) k.pull1 on' (Src.slice hs rfl) (by omega) fun xs2 a2 c2 h2 cov2 on2 k => ⟨_, _, _, rfl, n - (j + 1), by omega, j + 1, xs2, wrap_nat hjl (by omega), hjl, rfl, rfl, cov.trans cov2, on2, k.only⟩
  · have hjl : j = n := by
      have : ¬ (j : Int) < n := of_decide_eq_false hc
      omega
    subst hjl
    exact ⟨xs', a', c', rfl, cov, on', k⟩
/-! ### The book -/
abbrev BookL (p : Nat) (m : Cm) (n : Int) : List A := [A.blk p #[hdV m, .int .i64 n] 35, hdA 36 m, BfK KdB m.bufs]
theorem bwhole_spec {m : Cm} (k : ColR KdB 3 h m) (c0 : cellH h ⟨p, 0, none⟩ = some (hdV m)) : CallsH Tryz.prog 15 #[.pointer (some ⟨p, 0, none⟩)] h (fun v h' => v = .bool true ∧ h' = h) := by
  refine vf15 _ h _ ?_
  unfold F15
  have lx := k.len
  refine ⟨fun n hh _ i => ∃ j : Nat, i = j ∧ j ≤ m.es.length ∧ n = m.es.length - j ∧ hh = h, ⟨_, 0, rfl, by omega, rfl, rfl⟩, ?_⟩
  rintro n _ _ _ i ⟨j, rfl, hj, rfl, rfl⟩
  refine VSome.mk ⟨_, _, _, c0, cond_split (fun hc => ?_) (fun _ => ⟨rfl, rfl⟩)⟩
  have hjl : j < m.es.length := Int.ofNat_lt.1 (of_decide_eq_true hc)
  obtain ⟨e, he⟩ : ∃ e, m.es[j]? = some e := ⟨_, List.getElem?_eq_getElem hjl⟩
  have hel := (k.es j e he).2
  refine ⟨fun n h' _ r => ∃ t : Nat, r = t ∧ t ≤ e.2.1 ∧ n = e.2.1 - t ∧ h' = _, ⟨_, 0, rfl, by omega, rfl, rfl⟩, ?_⟩
  rintro n _ _ _ kk ⟨r, rfl, hr, rfl, rfl⟩
  refine VSome.mk ⟨_, _, _, c0, tr_one k.hd rfl he fun ad hc1 => ⟨_, _, _, hc1, cond_split (fun hc => ?_) (fun _ => ?_)⟩⟩
  · have hrl : r < e.2.1 := Int.ofNat_lt.1 (of_decide_eq_true hc)
    refine VSome.mk ⟨_, _, _, c0, tr_one k.hd rfl he fun ad2 hc2 => ⟨_, _, _, hc2, ?_⟩⟩
    refine (k.es j e he).1.row (f := KdB.f (j / 3)) (sz := 1) (xs := List.range e.2.1) (KdB.hf _) (by omega) List.length_range (by omega) (by omega) fun ad3 x hx hc3 => ⟨_, hc3 0 _ rfl, ?_⟩
    rw [Int.toNat_natCast, List.getElem?_range hrl] at hx
    cases hx
    refine CallsH.mono (mark_spec j r (by omega)) ?_
    rintro _ _ ⟨rfl, rfl⟩
    exact ⟨_, rfl, hc3 0 _ rfl, hc2, c0, cond_false (by simp) ⟨e.2.1 - (r + 1), by omega, r + 1, wrap_nat hrl (by omega), hrl, rfl, rfl⟩⟩
  · exact ⟨m.es.length - (j + 1), by omega, j + 1, wrap_nat hjl (by omega), hjl, rfl, rfl⟩
end Go.Proofs.YtgdgebmlcgohhaaGreatDoor.F
