/- The laws of the log: marks, and a book of lists that are full of them. Conditions: none. -/
import Derived.Test.YtbaglaoefaoaoaaDoorLJ
import Derived.Test.YtbaglaoefaoaoaaDoorS3
namespace Go.Proofs.YtbaglaoefaoaoaaDoor.F
open Go Go.VC Go.Proofs
set_option linter.unusedSimpArgs false
set_option linter.unusedVariables false
set_option maxRecDepth 100000
attribute [local irreducible] CallsH RunsTo PureTo

variable {S F G : Nat → Prop} {h0 h h1 : Heap} {L R L' : List A} {a b0 la wa : Option Addr} {l c l2 c2 p b cl cw : Nat} {bs cs : List UInt8} {bss css : List Bytes} {s : LogS}
theorem T64 : SlTy Tryd.prog 64 25 1 24 (.slice none 0 0) := ⟨by kernel_rfl, by kernel_rfl, rfl, by omega, by omega⟩
theorem und64 : Tryd.prog.underlying 64 = some (.slice 25) := by kernel_rfl
/-- Byte k of the mark of a group. -/
def mrk (q k : Nat) : UInt8 := UInt8.ofNat ((1 + q) / 2 ^ (8 * (k % 3)))
def fB (q k : Nat) : Value := byteV (mrk q k)
def fL (t : Nat × Nat) (_k : Nat) : Value := .slice (some ⟨t.2, 0, none⟩) 3 3
def mkL (q n : Nat) : Bytes := (List.range n).map (mrk q)
theorem mkL_pat (q n : Nat) : bytesV (mkL q n) = patV fB q n := by simp [bytesV, mkL, patV, fB, Function.comp_def]
theorem mkL_len (q n : Nat) : (mkL q n).length = n := by simp [mkL]
theorem mkL_next (q n : Nat) : mkL q n ++ [mrk q n] = mkL q (n + 1) := by simp [mkL, List.range_succ]
theorem mark_spec (i k : Nat) (hi : i < 4611686018427387904) : CallsH Tryd.prog 41 #[.int .i64 i, .int .i64 k] h (fun v h' => v = byteV (mrk (i / 4) k) ∧ h' = h) := by
  refine vf41 _ _ h _ ?_
  unfold F41
  have e1 : Int.tmod (k : Int) 3 = ((k % 3 : Nat) : Int) := rfl
  have e2 : Int.tdiv (i : Int) 4 = ((i / 4 : Nat) : Int) := rfl
  have h3 : k % 3 < 3 := Nat.mod_lt _ (by omega)
  have e3 : IntKind.i64.wrap (8 * ((k % 3 : Nat) : Int)) = ((8 * (k % 3) : Nat) : Int) := by rw [wrap_id (by omega) (by omega)]; omega
  have e4 : IntKind.i64.wrap (1 + IntKind.i64.wrap ((i / 4 : Nat) : Int)) = ((1 + i / 4 : Nat) : Int) := by rw [wrap_id (n := ((i / 4 : Nat) : Int)) (by omega) (by omega), wrap_id (by omega) (by omega)]; omega
  rw [e1, e2, e3, e4]
  refine ⟨by omega, by omega, by omega, ?_, rfl⟩
  rw [Int.toNat_natCast, show IntKind.bits .i64 = 64 from rfl, Nat.min_eq_left (by omega), wrap_u8, Int.fdiv_eq_ediv_of_nonneg _ (Int.pow_nonneg (by omega)), mrk, byteV_of]
  congr 1
theorem room_spec (n : Nat) : CallsH Tryd.prog 43 #[.int .i64 n] h (fun v h' => v = .int .i64 ((min n 70000 : Nat) : Int) ∧ h' = h) := by
  refine vf43 _ h _ ?_
  unfold F43
  refine ⟨?_, rfl⟩
  congr 1
  unfold minI
  split <;> omega
theorem longer_spec {xs : List (Bf Nat)} {q i n ll : Nat} (k : St S h0 h (Bfs 5 fB xs :: R)) (on : On xs q a ll c) (hq : i / 4 = q) (hi : i < 4611686018427387904) (hb : ll + n ≤ 140737488355328) {K : KV}
    (qq : ∀ xs' a' c' h', Cov xs xs' → On xs' q a' (ll + n) c' → St S h0 h' (Bfs 5 fB xs' :: R) → K (.slice a' (ll + n) c') h') : CallsH Tryd.prog 42 #[.slice a ll c, .int .i64 i, .int .i64 n] h K := by
  refine vf42 _ _ _ _ _ h _ ?_
  unfold F42
  refine ⟨fun m hh l' ll' cl' k => ∃ (j : Nat) (xs' : List (Bf Nat)), k = j ∧ j ≤ n ∧ m = n - j ∧ ll' = ll + j ∧ Cov xs xs' ∧ On xs' q l' ll' cl' ∧ St S h0 hh (Bfs 5 fB xs' :: R), ⟨_, 0, xs, rfl, by omega, rfl, rfl, .refl _, on, k⟩, ?_⟩
  clear k on
  rintro m hh _ l' ll' cl' i' ⟨j, xs', rfl, hj, rfl, rfl, cov, on, k⟩
  refine cond_split (fun hc => ?_) (fun hc => ?_)
  · have hjn : j < n := Int.ofNat_lt.1 (of_decide_eq_true hc)
    refine CallsH.mono (mark_spec i (ll + j) hi) ?_
    rintro _ _ ⟨rfl, rfl⟩
    rw [hq]
    refine ⟨_, rfl, k.vnew fun b11 h12 k => ?_⟩
    have hs : Sl h12 (some ⟨b11, 0, none⟩) [fB q (ll + j)] := k.slB (b := b11)
    refine Bfs.app T26 und26 (by simp) k.pull1 on (Src.slice hs rfl) rfl (by omega) fun xs2 a2 c2 h14 cov2 on2 k => ⟨_, _, _, rfl, ?_⟩
    exact ⟨n - (j + 1), by omega, j + 1, xs2, by rw [wrap_id (by omega) (by omega)]; omega, hjn, rfl, rfl, cov.trans cov2, on2, k.pull1.drop⟩
  · have hjn : j = n := by
      have : ¬ (j : Int) < n := of_decide_eq_false hc
      omega
    subst hjn
    exact qq xs' l' cl' hh cov on k
/-! ### The book -/
abbrev Tr := Option Addr × Nat × Nat
def trV (t : Tr) : Value := .slice t.1 t.2.1 t.2.2
theorem oneC_tr (es : List Tr) : ∀ v ∈ es.map trV, oneC v = true := by
  intro v hv
  obtain ⟨b, _, rfl⟩ := List.mem_map.1 hv
  rfl
def oneA (t : Nat × Nat) : A := A.blk t.2 #[byteV (mrk t.1 0), byteV (mrk t.1 1), byteV (mrk t.1 2)] 5
abbrev nilT : Tr := (none, 0, 0)
def EsOk (es : List Tr) (bufs : List (Bf Nat)) : Prop := ∀ (i : Nat) e, es[i]? = some e → (i % 4 ≠ 0 ∧ e = nilT) ∨ On bufs (i / 4) e.1 e.2.1 e.2.2
def LsOk (ls : List Tr) (lbufs : List (Bf (Nat × Nat))) (ones : List (Nat × Nat)) : Prop := ∀ (i : Nat) e, ls[i]? = some e → e = nilT ∨ ∃ b, (i / 4, b) ∈ ones ∧ On lbufs (i / 4, b) e.1 e.2.1 e.2.2
theorem EsOk.cov {es : List Tr} {x y : List (Bf Nat)} (k : EsOk es x) (q : Cov x y) : EsOk es y := fun i e h => (k i e h).imp id fun o => o.cov q
theorem LsOk.cov {ls : List Tr} {x y : List (Bf (Nat × Nat))} {ones : List (Nat × Nat)} (k : LsOk ls x ones) (q : Cov x y) : LsOk ls y ones := fun i e h => (k i e h).imp id fun ⟨b, h1, o⟩ => ⟨b, h1, o.cov q⟩
theorem EsOk.set {es : List Tr} {x : List (Bf Nat)} (k : EsOk es x) {i : Nat} {e : Tr} (o : On x (i / 4) e.1 e.2.1 e.2.2) : EsOk (es.set i e) x := fun j e' h => by
  rw [List.getElem?_set] at h
  split at h
  · rename_i hij
    subst hij
    split at h
    · cases h; exact .inr o
    · cases h
  · exact k j e' h
structure BkM where
  ba : Option Addr
  bc : Nat
  la : Option Addr
  lc : Nat
  total : Nat
  es : List Tr
  ls : List Tr
  bufs : List (Bf Nat)
  lbufs : List (Bf (Nat × Nat))
  ones : List (Nat × Nat)
def BookL (p : Nat) (m : BkM) : List A := [A.blk p #[.slice m.ba m.es.length m.bc, .slice m.la m.ls.length m.lc, .int .i64 m.total] 66, A.vec 26 1 m.ba m.es.length m.bc (m.es.map trV), A.vec 25 1 m.la m.ls.length m.lc (m.ls.map trV), Bfs 5 fB m.bufs, Bfs 26 fL m.lbufs, A.all (m.ones.map oneA)]
structure BkOk (m : BkM) : Prop where
  e4 : m.es.length % 4 = 0
  l4 : m.ls.length % 4 = 0
  es : EsOk m.es m.bufs
  ls : LsOk m.ls m.lbufs m.ones
/-- A book, as it may be read. -/
structure BkR (h : Heap) (p : Nat) (es ls : List Tr) : Prop where
  b : ∃ ba bc, cellH h ⟨p, 0, none⟩ = some (.slice ba es.length bc) ∧ Sl h ba (es.map trV)
  l : ∃ la lc, cellH h ⟨p, 1, none⟩ = some (.slice la ls.length lc) ∧ Sl h la (ls.map trV)
  es : ∀ (i : Nat) e, es[i]? = some e → Sl h e.1 (patV fB (i / 4) e.2.1) ∧ e.2.1 < 9223372036854775808
  ls : ∀ (i : Nat) e, ls[i]? = some e → ∃ b, e.2.1 < 9223372036854775808 ∧ Sl h e.1 (patV fL (i / 4, b) e.2.1) ∧ (0 < e.2.1 → Sl h (some ⟨b, 0, none⟩) [byteV (mrk (i / 4) 0), byteV (mrk (i / 4) 1), byteV (mrk (i / 4) 2)])
theorem patV_0 {τ : Type} (f : τ → Nat → Value) (t : τ) : patV f t 0 = [] := rfl
theorem BkOk.r {m : BkM} (ok : BkOk m) (k : St S h0 h (BookL p m ++ R)) : BkR h p m.es m.ls := by
  simp only [BookL, List.cons_append, List.nil_append] at k
  refine ⟨⟨_, _, k.rd (by rfl), (k.drop.sl (a := m.ba))⟩, ⟨_, _, k.rd (by rfl), k.drop.drop.sl (a := m.la)⟩, fun i e he => ?_, fun i e he => ?_⟩
  · rcases ok.es i e he with ⟨_, rfl⟩ | o
    · exact ⟨Sl.nil _ _, by show 0 < _; omega⟩
    · obtain ⟨o1, o2, o3⟩ := Bfs.sl k.drop.drop.drop o
      exact ⟨o1, by omega⟩
  · rcases ok.ls i e he with rfl | ⟨b, hb, o⟩
    · exact ⟨0, by show 0 < _; omega, Sl.nil _ _, fun h => absurd h (by simp)⟩
    · obtain ⟨o1, o2, o3⟩ := Bfs.sl k.drop.drop.drop.drop o
      refine ⟨b, by omega, o1, fun _ => ?_⟩
      have k := k.drop.drop.drop.drop.drop
      obtain ⟨F, hh, hf⟩ := k.own
      obtain ⟨F1, F2, k1, _⟩ := hh
      obtain ⟨F', k', _⟩ := Holds.get (show Holds (m.ones.map oneA) F1 h from k1) (List.mem_map_of_mem hb)
      have hB : Blk h b #[byteV (mrk (i / 4) 0), byteV (mrk (i / 4) 1), byteV (mrk (i / 4) 2)] 5 := k'.1
      exact hB.sl 0 fun j v hj => by rw [Nat.zero_add]; simpa using hj
theorem whole_spec {es ls : List Tr} (k : BkR h p es ls) (h1 : es.length < 1152921504606846976) (h2 : ls.length < 1152921504606846976) : CallsH Tryd.prog 25 #[.pointer (some ⟨p, 0, none⟩)] h (fun v h' => v = .bool true ∧ h' = h) := by
  refine vf25 _ h _ ?_
  unfold F25
  obtain ⟨ba, bc, b1, b2⟩ := k.b
  obtain ⟨la, lc, l1, l2⟩ := k.l
  have be : ∀ {i : Nat} {e : Tr} {K : Addr → Prop}, es[i]? = some e → (∀ ad, cellH h ad = some (trV e) → K ad) → VIdx ba es.length (i : Int) 1 K := fun {i e K} he q => by
    have hlt := (List.getElem?_eq_some_iff.1 he).1
    refine b2.one rfl (by omega) (by omega) fun ad x hx hc => ?_
    rw [Int.toNat_natCast, he] at hx
    cases hx
    exact q ad hc
  have le : ∀ {i : Nat} {e : Tr} {K : Addr → Prop}, ls[i]? = some e → (∀ ad, cellH h ad = some (trV e) → K ad) → VIdx la ls.length (i : Int) 1 K := fun {i e K} he q => by
    have hlt := (List.getElem?_eq_some_iff.1 he).1
    refine l2.one rfl (by omega) (by omega) fun ad x hx hc => ?_
    rw [Int.toNat_natCast, he] at hx
    cases hx
    exact q ad hc
  refine ⟨fun n hh _ i => ∃ j : Nat, i = j ∧ j ≤ es.length ∧ n = es.length - j ∧ hh = h, ⟨_, 0, rfl, by omega, rfl, rfl⟩, ?_⟩
  rintro n hh _ _ i ⟨j, rfl, hj, rfl, rfl⟩
  refine VSome.mk ⟨_, _, _, b1, cond_split (fun hc => ?_) (fun _ => ?_)⟩
  · have hjl : j < es.length := Int.ofNat_lt.1 (of_decide_eq_true hc)
    obtain ⟨e, he⟩ : ∃ e, es[j]? = some e := ⟨_, List.getElem?_eq_getElem hjl⟩
    obtain ⟨hes, hel⟩ := k.es j e he
    refine ⟨fun n h' _ k => ∃ r : Nat, k = r ∧ r ≤ e.2.1 ∧ n = e.2.1 - r ∧ h' = hh, ⟨_, 0, rfl, by omega, rfl, rfl⟩, ?_⟩
    rintro n h' _ _ kk ⟨r, rfl, hr, rfl, rfl⟩
    refine VSome.mk ⟨_, _, _, b1, be he fun ad hc1 => ⟨_, _, _, hc1, cond_split (fun hc => ?_) (fun _ => ?_)⟩⟩
    · have hrl : r < e.2.1 := Int.ofNat_lt.1 (of_decide_eq_true hc)
      refine VSome.mk ⟨_, _, _, b1, be he fun ad2 hc2 => ⟨_, _, _, hc2, ?_⟩⟩
      refine hes.one (f := fB (j / 4)) (xs := List.range e.2.1) List.length_range (by omega) (by omega) fun ad3 x hx hc3 => ⟨_, hc3, ?_⟩
      rw [Int.toNat_natCast, List.getElem?_range hrl] at hx
      cases hx
      refine CallsH.mono (mark_spec j r (by omega)) ?_
      rintro _ _ ⟨rfl, rfl⟩
      refine ⟨_, rfl, hc3, hc2, b1, cond_false (by simp) ⟨e.2.1 - (r + 1), by omega, r + 1, by rw [wrap_id (by omega) (by omega)]; omega, hrl, rfl, rfl⟩⟩
    · exact ⟨es.length - (j + 1), by omega, j + 1, by rw [wrap_id (by omega) (by omega)]; omega, hjl, rfl, rfl⟩
  · clear hj
    refine ⟨fun n h' _ i => ∃ j : Nat, i = j ∧ j ≤ ls.length ∧ n = ls.length - j ∧ h' = hh, ⟨_, 0, rfl, by omega, rfl, rfl⟩, ?_⟩
    rintro n h' _ _ i ⟨j, rfl, hj, rfl, rfl⟩
    refine VSome.mk ⟨_, _, _, l1, cond_split (fun hc => ?_) (fun _ => ⟨rfl, rfl⟩)⟩
    have hjl : j < ls.length := Int.ofNat_lt.1 (of_decide_eq_true hc)
    obtain ⟨e, he⟩ : ∃ e, ls[j]? = some e := ⟨_, List.getElem?_eq_getElem hjl⟩
    obtain ⟨b, hel, e1, e2⟩ := k.ls j e he
    refine ⟨fun n h'' _ k => ∃ r : Nat, k = r ∧ r ≤ e.2.1 ∧ n = e.2.1 - r ∧ h'' = h', ⟨_, 0, rfl, by omega, rfl, rfl⟩, ?_⟩
    rintro n h'' _ _ kk ⟨r, rfl, hr, rfl, rfl⟩
    refine VSome.mk ⟨_, _, _, l1, le he fun ad hc1 => ⟨_, _, _, hc1, cond_split (fun hc => ?_) (fun _ => ?_)⟩⟩
    · have hrl : r < e.2.1 := Int.ofNat_lt.1 (of_decide_eq_true hc)
      have e2 := e2 (by omega)
      refine VSome.mk ⟨_, _, _, l1, le he fun ad2 hc2 => ⟨_, _, _, hc2, ?_⟩⟩
      refine e1.one (f := fL (j / 4, b)) (xs := List.range e.2.1) List.length_range (by omega) (by omega) fun ad3 x hx hc3 => ⟨_, _, _, hc3, cond_false rfl ?_⟩
      have one : ∀ {i : Nat} {v : UInt8} {K : Addr → Prop}, [mrk (j / 4) 0, mrk (j / 4) 1, mrk (j / 4) 2][i]? = some v → (∀ ad, cellH h'' ad = some (byteV v) → K ad) → VIdx (some ⟨b, 0, none⟩) 3 (i : Int) 1 K := fun {i v K} hv q => by
        have hlt := (List.getElem?_eq_some_iff.1 hv).1
        have hlt : i < 3 := hlt
        refine Sl.one (f := byteV) (xs := [mrk (j / 4) 0, mrk (j / 4) 1, mrk (j / 4) 2]) e2 rfl (by omega) (by omega) fun ad x hx hc => ?_
        rw [Int.toNat_natCast, hv] at hx
        cases hx
        exact q ad hc
      refine one (i := 0) rfl fun ad4 hc4 => ⟨_, hc4, CallsH.mono (mark_spec j 0 (by omega)) ?_⟩
      rintro _ _ ⟨rfl, rfl⟩
      refine ⟨_, rfl, hc4, cond_false (by simp) (one (i := 1) rfl fun ad5 hc5 => ⟨_, hc5, CallsH.mono (mark_spec j 1 (by omega)) ?_⟩)⟩
      rintro _ _ ⟨rfl, rfl⟩
      refine ⟨_, rfl, hc5, cond_false (by simp) (one (i := 2) rfl fun ad6 hc6 => ⟨_, hc6, CallsH.mono (mark_spec j 2 (by omega)) ?_⟩)⟩
      rintro _ _ ⟨rfl, rfl⟩
      exact ⟨_, rfl, hc6, cond_false (by simp) ⟨e.2.1 - (r + 1), by omega, r + 1, by rw [wrap_id (by omega) (by omega)]; omega, hrl, rfl, rfl⟩⟩
    · exact ⟨ls.length - (j + 1), by omega, j + 1, by rw [wrap_id (by omega) (by omega)]; omega, hjl, rfl, rfl⟩
end Go.Proofs.YtbaglaoefaoaoaaDoor.F
