/- Separation: slices that are held, read, cut, grown, made. Conditions: none. -/
import Derived.Test.YtofaihacmoacjaaDoorS1
import Derived.Laws.MakeOwn
import Derived.Laws.IdiomStrings
import Derived.Laws.BytesArg
namespace Go.VC
open Go
set_option linter.unusedSimpArgs false
set_option linter.unusedVariables false

def byteV (b : UInt8) : Value := .int .u8 b.toNat
def bytesV (bs : List UInt8) : List Value := bs.map byteV
theorem bytesV_len (bs : List UInt8) : (bytesV bs).length = bs.length := by simp [bytesV]
theorem bytesV_app (x y : List UInt8) : bytesV (x ++ y) = bytesV x ++ bytesV y := by simp [bytesV]
theorem strCells_eq (s : ByteArray) : strCells s = bytesV s.data.toList := rfl
theorem oneC_bytes (bs : List UInt8) : ∀ v ∈ bytesV bs, oneC v = true := by
  intro v hv
  obtain ⟨b, _, rfl⟩ := List.mem_map.1 hv
  rfl

/-- Cells that others hold, away from F. -/
def Ro (F : Nat → Prop) (h : Heap) (a : Option Addr) (vs : List Value) : Prop := ∀ j v, vs[j]? = some v → ∃ ad, a = some ad ∧ cellH h (ad.add j) = some v ∧ ¬ F ad.block
variable {S F G : Nat → Prop} {h0 h h1 : Heap} {L R L' : List A} {a : Option Addr} {vs : List Value} {e sz l c : Nat}
theorem Ro.sl (k : Ro F h a vs) : Sl h a vs := fun j v hj => let ⟨ad, e, q, _⟩ := k j v hj; ⟨ad, e, q⟩
theorem Sl.ro (k : Sl h a vs) : Ro none_ h a vs := fun j v hj => let ⟨ad, e, q⟩ := k j v hj; ⟨ad, e, q, id⟩
theorem Ro.mod (k : Ro F h a vs) (m : Mod F h h1) : Ro F h1 a vs := fun j v hj => by
  obtain ⟨ad, e, q, n⟩ := k j v hj
  exact ⟨ad, e, cellH_mod q m (by rw [add_block]; exact n), n⟩
theorem Ro.sub (k : Ro F h a vs) (hg : ∀ b, G b → F b ∨ h.size ≤ b) : Ro G h a vs := fun j v hj => by
  obtain ⟨ad, e, q, n⟩ := k j v hj
  refine ⟨ad, e, q, fun hb => ?_⟩
  rcases hg _ hb with h1 | h1
  · exact n h1
  · have := cellH_lt q
    rw [add_block] at this; omega
/-- What was there from the beginning, for a call that holds F. -/
theorem Ro.at (k : Ro S h0 a vs) (m : Mod S h0 h) (hf : ∀ b, F b → S b ∨ h0.size ≤ b) : Ro F h a vs := fun j v hj => by
  obtain ⟨ad, e, q, n⟩ := k j v hj
  refine ⟨ad, e, cellH_mod q m (by rw [add_block]; exact n), fun hb => ?_⟩
  rcases hf _ hb with h1 | h1
  · exact n h1
  · have := cellH_lt q
    rw [add_block] at this; omega
theorem Ro.nil (F : Nat → Prop) (h : Heap) (a : Option Addr) : Ro F h a [] := fun j v hj => by simp at hj
theorem Ro.take (k : Ro F h a vs) (n : Nat) : Ro F h a (vs.take n) := fun j v hj => k j v (by
  rw [List.getElem?_take] at hj; split at hj; (· exact hj); (· cases hj))
theorem Ro.pre {xs ys : List Value} (k : Ro F h a (xs ++ ys)) : Ro F h a xs := fun j v hj => k j v (by
  rw [List.getElem?_append_left (List.getElem?_eq_some_iff.1 hj).1]; exact hj)
theorem Ro.drop (k : Ro F h a vs) (n : Nat) : Ro F h (a.map (·.add n)) (vs.drop n) := fun j v hj => by
  rw [List.getElem?_drop] at hj
  obtain ⟨ad, rfl, q, m⟩ := k _ v hj
  refine ⟨_, rfl, ?_, by rw [add_block]; exact m⟩
  rw [show (ad.add n).add j = ad.add (n + j) by
    unfold Addr.add
    by_cases h5 : n = 0 <;> by_cases h6 : j = 0 <;> simp [h5, h6, Nat.add_assoc]]
  exact q
theorem Ro.lt (k : Ro F h a vs) (hne : vs ≠ []) : ∀ b, ob a = some b → b < h.size ∧ ¬ F b := fun b hb => by
  obtain ⟨v, r, rfl⟩ := List.exists_cons_of_ne_nil hne
  obtain ⟨ad, rfl, hc, n⟩ := k 0 v rfl
  have := cellH_lt hc
  rw [add_block] at this
  simp [ob] at hb; subst hb; exact ⟨this, n⟩
/-- A part of what others hold. -/
theorem Ro.cut (k : Ro F h a vs) (hl : vs.length = l * sz) {lo hi mx : Nat} {x y z : Int} (hx : x = lo) (hy : y = hi) (hz : z = mx) (h1 : lo ≤ hi) (h2 : hi ≤ l) (h3 : hi ≤ mx) (h4 : mx ≤ c) {K : Option Addr → Nat → Nat → Prop}
    (q : ∀ a', Ro F h a' ((vs.take (hi * sz)).drop (lo * sz)) → ((vs.take (hi * sz)).drop (lo * sz)).length = (hi - lo) * sz → K a' (hi - lo) (mx - lo)) : VSlice sz a c x y z K := by
  have hlen : ((vs.take (hi * sz)).drop (lo * sz)).length = (hi - lo) * sz := by
    have := Nat.mul_le_mul_right sz h2
    rw [List.length_drop, List.length_take, hl, Nat.sub_mul]; omega
  refine ⟨lo, hi, mx, hx, hy, hz, h1, h3, h4, q _ ?_ hlen⟩
  by_cases he : mx = lo
  · rw [if_pos he]
    have : (vs.take (hi * sz)).drop (lo * sz) = [] := List.eq_nil_of_length_eq_zero (by rw [hlen, show hi - lo = 0 by omega, Nat.zero_mul])
    rw [this]; exact .nil _ _ _
  · rw [if_neg he]; exact (k.take _).drop _

/-! ### Reading -/
theorem Sl.one {α : Type} {f : α → Value} {xs : List α} {i : Int} {K : Addr → Prop} (k : Sl h a (xs.map f)) (hl : xs.length = l) (h0 : 0 ≤ i) (hi : i < l)
    (q : ∀ ad x, xs[i.toNat]? = some x → cellH h ad = some (f x) → K ad) : VIdx a l i 1 K := by
  refine ⟨h0, hi, ?_⟩
  have hlt : i.toNat < xs.length := by omega
  obtain ⟨ad, rfl, hc⟩ := k i.toNat (f xs[i.toNat]) (by simp [hlt])
  exact q _ _ (List.getElem?_eq_getElem hlt) (by rw [Nat.mul_one]; exact hc)
theorem Sl.row {α : Type} {f : α → List Value} (hf : ∀ x, (f x).length = sz) {xs : List α} {i : Int} {K : Addr → Prop} (k : Sl h a (xs.flatMap f)) (hs : 0 < sz) (hl : xs.length = l) (h0 : 0 ≤ i) (hi : i < l)
    (q : ∀ ad x, xs[i.toNat]? = some x → (∀ r v, (f x)[r]? = some v → cellH h (addN ad r) = some v) → K ad) : VIdx a l i sz K :=
  k.elem (by rw [flatMap_len hf, hl]) hs h0 hi fun ad _ hc =>
    have hlt : i.toNat < xs.length := by omega
    q ad _ (List.getElem?_eq_getElem hlt) fun r v hv => hc r v (flatMap_at hf (List.getElem?_eq_getElem hlt) hv)

/-! ### Slices that are held -/
class InV (L : List A) (a : Option Addr) (e sz l c : outParam Nat) (vs : outParam (List Value)) : Prop where
  mem : A.vec e sz a l c vs ∈ L
instance (priority := high) InV.head : InV (A.vec e sz a l c vs :: L) a e sz l c vs := ⟨List.mem_cons_self⟩
instance InV.tail {x : A} [k : InV L a e sz l c vs] : InV (x :: L) a e sz l c vs := ⟨List.mem_cons_of_mem _ k.mem⟩
theorem St.vec (k : St S h0 h L) {a : Option Addr} [q : InV L a e sz l c vs] : Vec h e sz a l c vs ∧ 0 < sz ∧ c < 9223372036854775808 := by
  obtain ⟨F, hh, hf⟩ := k.own
  obtain ⟨F', k', _⟩ := hh.get q.mem
  exact ⟨k'.1, k'.2.2⟩
theorem St.sl (k : St S h0 h L) {a : Option Addr} [q : InV L a e sz l c vs] : Sl h a vs := (St.vec (q := q) k).1.sl
theorem Holds.ro (k : Holds R G h) (d : ∀ b, F b → ¬ G b) {a : Option Addr} [q : InV R a e sz l c vs] : Ro F h a vs := by
  obtain ⟨F', k', hs⟩ := k.get q.mem
  intro j v hj
  obtain ⟨ad, rfl, hc⟩ := k'.1.sl j v hj
  refine ⟨ad, rfl, hc, fun hb => d _ hb (hs _ ((k'.2.1 _).2 ⟨?_, rfl⟩))⟩
  have hlt := (List.getElem?_eq_some_iff.1 hj).1
  rcases Nat.eq_zero_or_pos c with h1 | h1
  · have h2 := k'.1.le
    have h3 := k'.1.len
    have : l = 0 := by omega
    subst this; rw [h3, Nat.zero_mul] at hlt; omega
  · exact h1
theorem A.vec_mk {F : Nat → Prop} (hv : Vec h e sz a l c vs) (hs : 0 < sz) (hc : c < 9223372036854775808) (hF : ∀ x, F x ↔ 0 < c ∧ ob a = some x) : Holds [A.vec e sz a l c vs] F h :=
  ⟨F, fun _ => False, ⟨hv, hF, hs, hc⟩, fun _ => id, fun _ _ h => h, fun _ => by simp⟩
theorem St.vnil (k : St S h0 h R) (e : Nat) (hs : 0 < sz) : St S h0 h (A.vec e sz none 0 0 [] :: R) :=
  k.add (L' := [_]) ⟨.refl _ _, fun _ => False, A.vec_mk (.nil _ _ _) hs (by omega) fun x => by simp [ob], fun _ h => h.elim⟩
/-- An empty slice, of no room, wherever it points to. -/
theorem St.vempty (k : St S h0 h R) (e : Nat) (a : Option Addr) (hs : 0 < sz) : St S h0 h (A.vec e sz a 0 0 [] :: R) :=
  k.add (L' := [_]) ⟨.refl _ _, fun _ => False, A.vec_mk ⟨by simp, Nat.le_refl _, Sl.nil _ _, .inl rfl⟩ hs (by omega) fun x => by simp, fun _ h => h.elim⟩
theorem Vec.cut {lo hi mx : Nat} (k : Vec h e sz a l c vs) (h1 : lo ≤ hi) (h2 : hi ≤ l) (h3 : hi ≤ mx) (h4 : mx ≤ c) :
    Vec h e sz (if mx = lo then a else a.map (·.add (lo * sz))) (hi - lo) (mx - lo) ((vs.take (hi * sz)).drop (lo * sz)) := by
  have hle := Nat.mul_le_mul_right sz h2
  have hlen : ((vs.take (hi * sz)).drop (lo * sz)).length = (hi - lo) * sz := by
    rw [List.length_drop, List.length_take, k.len, Nat.sub_mul]; omega
  refine ⟨hlen, by omega, ?_, ?_⟩
  · by_cases he : mx = lo
    · rw [if_pos he]
      have : (vs.take (hi * sz)).drop (lo * sz) = [] := List.eq_nil_of_length_eq_zero (by rw [hlen, show hi - lo = 0 by omega, Nat.zero_mul])
      rw [this]; exact .nil _ _
    · rw [if_neg he]; exact ((k.sl.ro.take _).drop _).sl
  · by_cases he : mx = lo
    · exact .inl (by omega)
    · rw [if_neg he]
      rcases k.room with h0 | ⟨g, o, cur, rfl, hB, hsz⟩
      · exact .inl (by omega)
      · refine .inr ⟨g, o + lo * sz, cur, by simp [add_plain], hB, ?_⟩
        have := Nat.mul_le_mul_right sz h4
        rw [Nat.sub_mul]
        have := Nat.mul_le_mul_right sz (show lo ≤ mx by omega)
        omega
theorem St.cut (k : St S h0 h (A.vec e sz a l c vs :: R)) {lo hi mx : Nat} {x y z : Int} (hx : x = lo) (hy : y = hi) (hz : z = mx) (h1 : lo ≤ hi) (h2 : hi ≤ l) (h3 : hi ≤ mx) (h4 : mx ≤ c) {K : Option Addr → Nat → Nat → Prop}
    (q : ∀ a', St S h0 h (A.vec e sz a' (hi - lo) (mx - lo) ((vs.take (hi * sz)).drop (lo * sz)) :: R) → K a' (hi - lo) (mx - lo)) : VSlice sz a c x y z K := by
  refine ⟨lo, hi, mx, hx, hy, hz, h1, h3, h4, q _ ?_⟩
  refine k.turn (L := [_]) fun F kF => ?_
  obtain ⟨kV, kF, hs, hc⟩ := kF
  refine ⟨_, A.vec_mk (kV.cut h1 h2 h3 h4) hs (by omega) fun _ => Iff.rfl, ?_⟩
  rintro b ⟨hb1, hb2⟩
  rw [if_neg (by omega)] at hb2
  refine (kF b).2 ⟨by omega, ?_⟩
  cases a with
  | none => simp [ob] at hb2
  | some ad => simpa [ob, add_block] using hb2
/-- The whole block as a slice. -/
theorem St.blkvec {b t n : Nat} {cs : Array Value} (k : St S h0 h (A.blk b cs t :: R)) (hn : cs.size = n * sz) (hs : 0 < sz) (hc : n < 9223372036854775808) : St S h0 h (A.vec t sz (some ⟨b, 0, none⟩) n n cs.toList :: R) :=
  k.turn (L := [_]) fun F kF => by
    obtain ⟨hB, hF⟩ := kF
    exact ⟨_, A.vec_mk (hB.vec hn) hs hc fun _ => Iff.rfl, fun x hx => (hF x).2 (by simpa [ob] using hx.2.symm)⟩

/-- A slice's type: its elements' type, cells, bytes, zero. -/
structure SlTy (P : Program) (t e sz bt : Nat) (z : Value) : Prop where
  ut : P.underlying t = some (.slice e)
  inf : (P.info? e).map (fun i => (i.zero, i.size, i.bytes)) = some (some z, sz, bt)
  zs : z.cells.size = sz
  b0 : 0 < bt
  s0 : 0 < sz
theorem append_vecS {P : Program} {t tx ty bt : Nat} {z : Value} (T : SlTy P t e sz bt z) {d : TypeDesc} (htx : P.underlying tx = some d) (hd : ∀ k, d ≠ .int k) {x : Value} {n : Nat} {news : List Value} (src : Src P sz h x n news)
    (hone : ∀ v ∈ news, oneC v = true) (hv : Vec h e sz a l c vs) (hbytes : (l + n) * bt ≤ 140737488355328 ∨ (bt = 1 ∧ l + n ≤ 140737488363520)) {K : KV}
    (k : ∀ a' c' h', Vec h' e sz a' (l + n) c' (vs ++ news) → Mod (fun b => 0 < c ∧ ob a = some b) h h' → (c' = c ∧ a' = a ∧ h'.size = h.size ∧ l + n ≤ c) ∨ (a' = some ⟨h.size, 0, none⟩ ∧ h'.size = h.size + 1 ∧ Ext h h' ∧ c < l + n ∧ c' < 9223372036854775808) → K (.slice a' (l + n) c') h') :
    RunsTo P (Builtin.append_ #[t, tx] ty #[.slice a l c, x]) h K := by
  rcases Nat.eq_zero_or_pos c with h0 | h0
  · subst h0
    cases hi' : P.info? e with
    | none => have := T.inf; rw [hi'] at this; cases this
    | some i =>
      have hi := T.inf
      rw [hi'] at hi
      simp only [Option.map_some, Option.some.injEq, Prod.mk.injEq] at hi
      obtain ⟨e1, rfl, rfl⟩ := hi
      have hl0 : l = 0 := by have := hv.le; omega
      subst hl0
      have hvs : vs = [] := List.eq_nil_of_length_eq_zero (by rw [hv.len]; simp)
      subst hvs
      have hlen : news.length = (0 + n) * i.size := by rw [src.length, Nat.zero_add]
      refine append_runs T.ut htx hd hi' e1 T.b0 src hone hv.sl hv.len hv.le hbytes ?_ ?_ ?_
      · intro hfit hne
        have hn0 : n = 0 := by omega
        subst hn0
        exact absurd (List.eq_nil_of_length_eq_zero (by rw [src.length]; simp)) hne
      · intro hfit hnil
        subst hnil
        have hn0 : n = 0 := by omega
        subst hn0
        exact k a 0 h ⟨by simp, by omega, Sl.nil _ _, .inl rfl⟩ (.refl _ _) (.inl ⟨rfl, rfl, rfl, by omega⟩)
      · intro hg c' h' hc' hcb hB m s
        refine k _ c' h' ⟨by simpa using hlen, hc', hB.sl 0 fun j v hj => ?_, .inr ⟨h.size, 0, _, rfl, hB, ?_⟩⟩ (m.mono fun _ h => h.elim) (.inr ⟨rfl, s, m, hg, hcb⟩)
        · rw [Nat.zero_add]
          rw [List.nil_append] at hj
          have hj1 := (List.getElem?_eq_some_iff.1 hj).1
          rw [Array.getElem?_append_left (by simpa using hj1)]
          simpa using hj
        · simp only [Array.size_append, List.size_toArray, hv.len, src.length, Builtin.zeroCells, Array.size_map, Array.size_range, T.zs]
          rw [Nat.zero_add, ← Nat.add_mul, ← Nat.add_mul]
          exact Nat.le_of_eq (by congr 1; omega)
  · exact append_vec' T.ut htx hd T.inf T.zs T.b0 src hone hv hbytes fun a' c' h' hv' m q => k a' c' h' hv' (m.mono fun b hb => .inl ⟨h0, hb⟩) q
theorem St.appW {P : Program} {t tx ty bt : Nat} {z : Value} (T : SlTy P t e sz bt z) {d : TypeDesc} (htx : P.underlying tx = some d) (hd : ∀ k, d ≠ .int k) {x : Value} {n : Nat} {news : List Value} (k : St S h0 h (A.vec e sz a l c vs :: R)) (src : Src P sz h x n news)
    (hone : ∀ v ∈ news, oneC v = true) (hbytes : (l + n) * bt ≤ 140737488355328 ∨ (bt = 1 ∧ l + n ≤ 140737488363520)) {K : KV}
    (q : ∀ a' c' h', St S h0 h' (A.vec e sz a' (l + n) c' (vs ++ news) :: R) → K (.slice a' (l + n) c') h') :
    RunsTo P (Builtin.append_ #[t, tx] ty #[.slice a l c, x]) h K := by
  obtain ⟨F, G, k1, k2, dd, hf, back⟩ := k.frame1
  obtain ⟨kV, kF, hs, hc⟩ := k1
  refine append_vecS T htx hd src hone kV hbytes fun a' c' h' hv' m hd' => q a' c' h' ?_
  refine back (L' := [_]) ⟨m.mono fun b hb => .inl ((kF b).2 hb), _, A.vec_mk hv' hs (by rcases hd' with ⟨rfl, _⟩ | ⟨_, _, _, _, h⟩; (· exact hc); (· exact h)) fun _ => Iff.rfl, ?_⟩
  rintro b ⟨hb1, hb2⟩
  rcases hd' with ⟨rfl, rfl, _⟩ | ⟨rfl, _⟩
  · exact .inl ((kF b).2 ⟨hb1, hb2⟩)
  · simp [ob] at hb2; subst hb2; exact .inr (Nat.le_refl _)
theorem St.app {P : Program} {t tx ty bt : Nat} {z : Value} (T : SlTy P t e sz bt z) {d : TypeDesc} (htx : P.underlying tx = some d) (hd : ∀ k, d ≠ .int k) {x : Value} {n : Nat} {news : List Value} (k : St S h0 h (A.vec e sz a l c vs :: R)) (src : Src P sz h x n news)
    (hone : ∀ v ∈ news, oneC v = true) (hbytes : (l + n) * bt ≤ 140737488355328) {K : KV}
    (q : ∀ a' c' h', St S h0 h' (A.vec e sz a' (l + n) c' (vs ++ news) :: R) → K (.slice a' (l + n) c') h') :
    RunsTo P (Builtin.append_ #[t, tx] ty #[.slice a l c, x]) h K :=
  St.appW T htx hd k src hone (.inl hbytes) q
theorem St.make {P : Program} {t bt : Nat} {z : Value} (T : SlTy P t e sz bt z) {kl kc : IntKind} {n m : Nat} {x y : Int} (hx : x = n) (hy : y = m) (k : St S h0 h R) (hnm : n ≤ m) (hb : bt * m ≤ 140737488355328) {K : KV}
    (q : ∀ a' h', St S h0 h' (A.vec e sz a' n m ((madeCells z.cells (m * sz)).toList.take (n * sz)) :: R) → K (.slice a' n m) h') : RunsTo P (Instr.makeSlice t (.int kl x) (.int kc y)) h K := by
  subst hx hy
  intro w hw
  cases hi' : P.info? e with
  | none => have := T.inf; rw [hi'] at this; cases this
  | some i =>
    have hi := T.inf
    rw [hi'] at hi
    simp only [Option.map_some, Option.some.injEq, Prod.mk.injEq] at hi
    obtain ⟨e1, rfl, rfl⟩ := hi
    have hmb : m ≤ i.bytes * m := Nat.le_mul_of_pos_left _ T.b0
    have hb' : (i.bytes : Int) * (m : Int) ≤ 281474976710656 := by
      have h : ((i.bytes * m : Nat) : Int) ≤ 281474976710656 := by omega
      rwa [Int.natCast_mul] at h
    have hr := run_make (P := P) w t e i z T.ut hi' e1 kl kc n m (by omega) (by omega) hb' (by omega)
    simp only [Int.toNat_natCast] at hr
    have hB : Blk (w.heap.push (.cells (madeCells z.cells (m * i.size)) e)) w.heap.size (madeCells z.cells (m * i.size)) e := Blk.push _ _ _
    have hsz : (madeCells z.cells (m * i.size)).size = m * i.size := size_madeCells _ _
    refine ⟨_, _, hr, ⟨rfl, rfl, rfl⟩, ?_⟩
    refine q _ _ ?_
    subst hw
    refine k.add (L' := [_]) ⟨Mod.push _ _, _, A.vec_mk (c := m) ⟨?_, hnm, hB.sl 0 fun j v hj => ?_, .inr ⟨_, 0, _, rfl, hB, by omega⟩⟩ T.s0 (by omega) fun _ => Iff.rfl, ?_⟩
    · have := Nat.mul_le_mul_right i.size hnm
      rw [List.length_take, Array.length_toList, hsz]; omega
    · rw [List.getElem?_take] at hj
      split at hj
      · rw [Nat.zero_add]; simpa using hj
      · cases hj
    · rintro b ⟨_, hb⟩
      simp [ob] at hb; subst hb; exact .inr (Nat.le_refl _)
/-- A text of bytes. -/
theorem bytes_text {P : Program} {t ts e : Nat} (ht : P.underlying t = some (.slice e)) (he : P.underlying e = some (.int .u8)) (hs : P.underlying ts = some .string) {bs : List UInt8} (k : Sl h a (bytesV bs)) {K : KV} (hl : bs.length = l)
    (q : K (.string ⟨bs.toArray⟩) h) : RunsTo P (convert t ts (.slice a l c)) h K := by
  intro w hw
  refine ⟨_, w, ?_, .refl w, hw ▸ q⟩
  cases a with
  | none =>
    have hbs : bs = [] := by
      cases bs with
      | nil => rfl
      | cons b r => obtain ⟨ad, h0, _⟩ := k 0 (byteV b) rfl; cases h0
    subst hbs
    exact run_convert_bytes_nil w t e ht he l c ts hs
  | some ad =>
    have hl' : (loadCells ad l).run P w = .ok ((bs.map fun b => (b.toNat : Int)).map (Value.int .u8)).toArray w := by
      have := run_loadCells_list (P := P) w ad (bytesV bs) (fun j v hj => by
        obtain ⟨ad', h0, hc⟩ := k j v hj
        cases h0
        rw [cell_eq, hw]; exact hc)
      rw [bytesV_len, hl] at this
      rw [this, bytesV, List.map_map]; rfl
    rw [run_convert_bytes_string w t ts e _ l c ht he hs, run_bytesToString w _ l c _ hl', foldl_push_byteCells]
    simp [ByteArray.empty, ByteArray.emptyWithCapacity]
    rfl
/-- The bytes of a constant text. -/
theorem St.marked {P : Program} {t e : Nat} (ht : P.underlying t = some (.slice e)) (he : P.underlying e = some (.int .u8)) {b : Nat} {cs : Array Value} {x : Nat} (k : St S h0 h (A.blk b cs x :: R)) {K : KV}
    (q : ∀ h', St S h0 h' (A.blk b cs x :: R) → K (.slice (some ⟨b, 0, none⟩) l c) h') : RunsTo P (convert t t (.slice (some ⟨b, 0, none⟩) l c)) h K := by
  intro w hw
  subst hw
  have hB : Blk w.heap b cs x := St.blk k
  obtain ⟨lo, hi, hb, hq⟩ := id hB
  have hsh : w.shape? b = some (x, cs.size) := by
    unfold World.shape?; rw [hb]
  refine ⟨.slice (some ⟨b, 0, none⟩) l c, w.freeze ⟨b, cs.size, none⟩ 1, ?_, ⟨rfl, rfl, rfl⟩, q _ ?_⟩
  · simp [convert, und_run ht, und_run he, markStringish, hsh]
  · unfold World.freeze
    rw [if_neg (by decide)]
    have key : ∀ f : Obj → Obj, (∀ c e lo hi, f (.cells c e (lo, hi)) = .cells c e (if lo == hi then (cs.size, cs.size + 1) else (min lo cs.size, max hi (cs.size + 1)))) → St S h0 (w.heap.modify b f) (A.blk b cs x :: R) :=
      fun f hf => St.put (q := PutB.head) k (hB.freeze (Nat.le_refl _) hf) (Mod.modify _ _ _)
    exact key (fun
      | .cells c elem (lo, hi) => .cells c elem (if lo == hi then (cs.size, cs.size + 1) else (min lo cs.size, max hi (cs.size + 1)))
      | o => o) fun _ _ _ _ => rfl
theorem holds1 {x : A} : Holds [x] F h ↔ x.P F h := by
  constructor
  · rintro ⟨F1, F2, k1, k2, d, e⟩
    have : F = F1 := by
      funext b
      exact propext ((e b).trans ⟨fun h => h.elim id (fun h => (k2 b h).elim), .inl⟩)
    subst this; exact k1
  · intro k
    exact ⟨F, fun _ => False, k, fun _ => id, fun _ _ h => h, fun _ => by simp⟩
/-- One of what is held, for a call. -/
theorem St.frameA {x : A} (k : St S h0 h (x :: R)) : ∃ F G, Holds [x] F h ∧ Holds R G h ∧ (∀ b, F b → ¬ G b) ∧ (∀ b, F b → S b ∨ h0.size ≤ b) ∧ ∀ {h' : Heap} {y : A}, St F h h' [y] → St S h0 h' (y :: R) := by
  obtain ⟨F, G, a1, a2, a3, a4, a5⟩ := St.frame (L := [x]) k
  exact ⟨F, G, a1, a2, a3, a4, fun q => a5 q⟩
/-- One, of which nothing is left. -/
theorem St.frame0 {x : A} (k : St S h0 h (x :: R)) : ∃ F G, Holds [x] F h ∧ Holds R G h ∧ (∀ b, F b → ¬ G b) ∧ (∀ b, F b → S b ∨ h0.size ≤ b) ∧ ∀ {h' : Heap}, St F h h' [] → St S h0 h' R := by
  obtain ⟨F, G, a1, a2, a3, a4, a5⟩ := St.frame (L := [x]) k
  exact ⟨F, G, a1, a2, a3, a4, fun q => a5 q⟩
/-- One, of which two come. -/
theorem St.frame2 {x : A} (k : St S h0 h (x :: R)) : ∃ F G, Holds [x] F h ∧ Holds R G h ∧ (∀ b, F b → ¬ G b) ∧ (∀ b, F b → S b ∨ h0.size ≤ b) ∧ ∀ {h' : Heap} {y z : A}, St F h h' [y, z] → St S h0 h' (y :: z :: R) := by
  obtain ⟨F, G, a1, a2, a3, a4, a5⟩ := St.frame (L := [x]) k
  exact ⟨F, G, a1, a2, a3, a4, fun q => a5 q⟩
theorem St.frameB {x y : A} (k : St S h0 h (x :: y :: R)) : ∃ F G, Holds [x, y] F h ∧ Holds R G h ∧ (∀ b, F b → ¬ G b) ∧ (∀ b, F b → S b ∨ h0.size ≤ b) ∧ ∀ {h' : Heap} {x y : A}, St F h h' [x, y] → St S h0 h' (x :: y :: R) := by
  obtain ⟨F, G, a1, a2, a3, a4, a5⟩ := St.frame (L := [x, y]) k
  exact ⟨F, G, a1, a2, a3, a4, fun q => a5 q⟩
theorem St.re {x y : A} (k : St S h0 h (x :: R)) (e : x = y) : St S h0 h (y :: R) := e ▸ k
theorem St.add1 {y : A} (k : St S h0 h R) (k' : St none_ h h1 [y]) : St S h0 h1 (y :: R) := k.add k'
theorem St.add2 {y z : A} (k : St S h0 h R) (k' : St none_ h h1 [y, z]) : St S h0 h1 (y :: z :: R) := k.add k'
theorem Holds.roB (k : Holds R G h) (d : ∀ b, F b → ¬ G b) {b t : Nat} {cs : Array Value} [q : InB R b cs t] : Ro F h (some ⟨b, 0, none⟩) cs.toList := by
  obtain ⟨F', k', hs⟩ := k.get q.mem
  intro j v hj
  refine ⟨_, rfl, ?_, fun hb => d _ hb (hs _ ((k'.2 _).2 rfl))⟩
  rw [add_plain, k'.1.cell, Nat.zero_add]
  simpa using hj
theorem St.slB (k : St S h0 h L) {b t : Nat} {cs : Array Value} [q : InB L b cs t] : Sl h (some ⟨b, 0, none⟩) cs.toList :=
  (St.blk (q := q) k).sl 0 fun j v hj => by rw [Nat.zero_add]; simpa using hj
theorem Ro.in (k : Ro S h0 a vs) (s : St S h0 h L) : Ro none_ h a vs := k.at s.ext fun _ h => h.elim
/-- What is held, in another order, told by numbers. -/
theorem St.sel (k : St S h0 h L) (n : Nat) (is : List Nat) (hn : L.length = n) (hp : is.Perm (List.range n)) (he : is.map (L[·]?) = L'.map some) : St S h0 h L' := by
  subst hn
  have h1 : (is.map (L[·]?)).Perm ((List.range L.length).map (L[·]?)) := hp.map _
  have h2 : (List.range L.length).map (L[·]?) = L.map some := by
    apply List.ext_getElem?
    intro i
    rw [List.getElem?_map, List.getElem?_map]
    by_cases hi : i < L.length
    · simp [hi]
    · simp [List.getElem?_eq_none (show L.length ≤ i by omega), hi]
  rw [h2, he] at h1
  have h3 := h1.filterMap id
  simp only [List.filterMap_map, Function.comp_def, id, List.filterMap_some] at h3
  exact k.perm h3.symm
/-- Only the first of what is held. -/
theorem St.only {x : A} (k : St S h0 h (x :: R)) : St S h0 h [x] :=
  St.dropL (L := R) (R := [x]) (k.perm (List.perm_append_comm (l₁ := [x]) (l₂ := R)))
theorem St.only2 {x y : A} (k : St S h0 h (x :: y :: R)) : St S h0 h [x, y] :=
  St.dropL (L := R) (R := [x, y]) (k.perm (List.perm_append_comm (l₁ := [x, y]) (l₂ := R)))
theorem St.only3 {x y z : A} (k : St S h0 h (x :: y :: z :: R)) : St S h0 h [x, y, z] :=
  St.dropL (L := R) (R := [x, y, z]) (k.perm (List.perm_append_comm (l₁ := [x, y, z]) (l₂ := R)))
end Go.VC
