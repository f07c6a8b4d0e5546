/- The law AggAll: its rows in memory; it answers true. Conditions: none. -/
import Derived.Test.YtcncagllbkohfaaC6
namespace Go.Proofs.Ytcncagllbkohfaa.F
open Go Go.VC Go.Proofs
set_option linter.unusedSimpArgs false
set_option linter.unusedVariables false
set_option maxRecDepth 100000
attribute [local irreducible] CallsH RunsTo PureTo IntKind.wrap

def szOf (s0 s1 : Int) (k : Nat) : Int := if k % 2 = 0 then s0 else s1
def upd {α : Type} (f : Nat → α) (k : Nat) (x : α) : Nat → α := fun j => if j = k then x else f j
/-- The law's state: new blocks L, the hand, eight rows, all apart. -/
structure AS (h hh : Heap) (L : List (Nat × Array Value × Nat)) (hb : Nat) (s0 s1 : Int) (P Q : Nat → Option Addr) (vs : List Value) (TH : Nat → Prop) (a : Option Addr) (c : Nat) (held : Nat → List Int) (S : Nat → Nat → Prop) : Prop where
  own : Lcl h hh L
  hd : HD hh hb vs TH a c
  rs : ∀ k, RS hh (P k) (Q k) (szOf s0 s1 k) (held k) (S k)
  newH : ∀ z, TH z → h.size ≤ z
  newS : ∀ k z, S k z → h.size ≤ z
  dH : ∀ k z, TH z → ¬ S k z
  dS : ∀ j k z, j ≠ k → S j z → ¬ S k z
  dis : ∀ x ∈ L, ¬ TH x.1 ∧ ∀ k, ¬ S k x.1
def ASE (h hh : Heap) (L : List (Nat × Array Value × Nat)) (hb : Nat) (s0 s1 : Int) (P Q : Nat → Option Addr) : Prop := ∃ vs TH a c held S, AS h hh L hb s0 s1 P Q vs TH a c held S
variable {h hh : Heap} {L : List (Nat × Array Value × Nat)} {hb : Nat} {s0 s1 : Int} {P Q : Nat → Option Addr}
theorem ASE.own (k : ASE h hh L hb s0 s1 P Q) : Lcl h hh L := by obtain ⟨_, _, _, _, _, _, k⟩ := k; exact k.own
theorem ASE.next {h' : Heap} (k : ASE h hh L hb s0 s1 P Q) (m : Ext hh h') : ASE h h' L hb s0 s1 P Q := by
  obtain ⟨vs, TH, a, c, held, S, k⟩ := k
  exact ⟨vs, TH, a, c, held, S, k.own.next m, k.hd.mod m fun _ _ => id, fun j => (k.rs j).mod m fun _ _ => id, k.newH, k.newS, k.dH, k.dS, k.dis⟩
theorem ASE.vnew {cs : Array Value} {t : Nat} {K : Nat → Heap → Prop} (k : ASE h hh L hb s0 s1 P Q) (r : ∀ b h1, ASE h h1 ((b, cs, t) :: L) hb s0 s1 P Q → K b h1) : VNew hh (.cells cs t) K :=
  VNew.mk fun b h1 hb hB m _ => by
    obtain ⟨vs, TH, a, c, held, S, k⟩ := k
    refine r b h1 ⟨vs, TH, a, c, held, S, k.own.alloc hb hB m, k.hd.mod m fun _ _ => id, fun j => (k.rs j).mod m fun _ _ => id, k.newH, k.newS, k.dH, k.dS, fun x hx => ?_⟩
    rcases List.mem_cons.1 hx with rfl | hx
    · subst hb
      exact ⟨fun e => Nat.lt_irrefl _ (k.hd.lt _ e), fun j e => Nat.lt_irrefl _ ((k.rs j).1 _ e)⟩
    · exact k.dis x hx
theorem ASE.set {h1 : Heap} (k : ASE h hh L hb s0 s1 P Q) (n : Nat) {b t : Nat} {cs cs' : Array Value} (hn : L[n]? = some (b, cs, t)) (hB : Blk h1 b cs' t) (m : Mod (· = b) hh h1) : ASE h h1 (L.set n (b, cs', t)) hb s0 s1 P Q := by
  obtain ⟨vs, TH, a, c, held, S, k⟩ := k
  have hd := k.dis _ (List.mem_of_getElem? hn)
  refine ⟨vs, TH, a, c, held, S, k.own.change n hn hB m, k.hd.mod m fun z hz e => hd.1 (e ▸ hz), fun j => (k.rs j).mod m fun z hz e => hd.2 j (e ▸ hz), k.newH, k.newS, k.dH, k.dS, fun x hx => ?_⟩
  rcases List.mem_or_eq_of_mem_set hx with hx | rfl
  · exact k.dis x hx
  · exact hd
theorem ASE.tail {x : Nat × Array Value × Nat} (k : ASE h hh (x :: L) hb s0 s1 P Q) : ASE h hh L hb s0 s1 P Q := by
  obtain ⟨vs, TH, a, c, held, S, k⟩ := k
  exact ⟨vs, TH, a, c, held, S, ⟨k.own.ext, fun y hy => k.own.blk y (List.mem_cons_of_mem _ hy), fun y hy => k.own.new y (List.mem_cons_of_mem _ hy), (List.nodup_cons.1 k.own.once).2⟩, k.hd, k.rs, k.newH, k.newS, k.dH, k.dS, fun y hy => k.dis y (List.mem_cons_of_mem _ hy)⟩
theorem as_made (k : ASE h hh L hb s0 s1 P Q) (j : Nat) : CallsH Try.prog 7 #[.int .i64 (szOf s0 s1 j)] hh fun v h' => ∃ p q, v = .tuple #[.agg #[.pointer p, .pointer q], .bool true] ∧ ASE h h' L hb s0 s1 (upd P j p) (upd Q j q) := by
  obtain ⟨vs, TH, a, c, held, S, k⟩ := k
  refine CallsH.mono (made_spec (szOf s0 s1 j) hh) ?_
  rintro _ h' ⟨p, q, Sn, rfl, hr, hn, m⟩
  have old : ∀ i z, S i z → z < hh.size := fun i => (k.rs i).1
  refine ⟨p, q, rfl, vs, TH, a, c, upd held j [], upd S j Sn, k.own.next m, k.hd.mod m fun _ _ => id, fun i => ?_, k.newH, ?_, ?_, ?_, fun x hx => ⟨(k.dis x hx).1, ?_⟩⟩
  · unfold upd
    by_cases e : i = j
    · subst e; simpa using hr
    · simpa [e] using (k.rs i).mod m fun _ _ => id
  · intro i z hz
    unfold upd at hz
    split at hz
    · have := hn z hz; have := k.own.ext.size; omega
    · exact k.newS i z hz
  · intro i z hz hs
    unfold upd at hs
    split at hs
    · have := hn z hs; have := k.hd.lt z hz; omega
    · exact k.dH i z hz hs
  · intro i i' z hne hz hz'
    unfold upd at hz hz'
    split at hz
    · split at hz'
      · omega
      · have := hn z hz; have := old i' z hz'; omega
    · split at hz'
      · have := hn z hz'; have := old i z hz; omega
      · exact k.dS i i' z hne hz hz'
  · intro i hz
    unfold upd at hz
    split at hz
    · have := hn _ hz; have := (k.own.blk x hx).lt; omega
    · exact (k.dis x hx).2 i hz
theorem as_plays (k : ASE h hh L hb s0 s1 P Q) (j : Nat) (kind which fn : Int) (A B : Acc) (po : Option Addr) (l cp : Nat) (ns : List Int) (hs : Sl h po (ints ns)) (hl : ns.length = l) (hbd : l < 17592186043905) :
    CallsH Try.prog 9 #[.pointer (some ⟨hb, 0, none⟩), .agg #[.pointer (P j), .pointer (Q j)], .agg #[.int .i64 kind, .int .i64 which, .int .i64 A.c, .int .i64 A.s, .int .i64 A.lo, .int .i64 A.hi, .int .i64 B.c, .int .i64 B.s, .int .i64 B.lo, .int .i64 B.hi, .slice po l cp, .int .i64 fn]] hh
      fun v h' => v = .bool true ∧ ASE h h' L hb s0 s1 P Q := by
  obtain ⟨vs, TH, a, c, held, S, k⟩ := k
  have old : ∀ i z, S i z → z < hh.size := fun i => (k.rs i).1
  have e0 := k.own.ext.size
  refine CallsH.mono (plays_spec k.own.ext k.hd (k.rs j) (k.dH j) (fun z hz => hz.elim (k.newH z) (k.newS j z)) kind which fn A B po l cp ns hs hl hbd) ?_
  rintro _ h' ⟨rfl, vs', a', c', held', TH', TR', hd', rs', d', sH, sR, m⟩
  refine ⟨rfl, vs', TH', a', c', upd held j held', upd S j TR', k.own.other m (fun z hz => .inr (hz.elim (k.newH z) (k.newS j z))) (fun x hx hz => hz.elim (k.dis x hx).1 ((k.dis x hx).2 j)), hd', fun i => ?_, ?_, ?_, ?_, ?_, fun x hx => ⟨?_, ?_⟩⟩
  · unfold upd
    by_cases e : i = j
    · subst e; simpa using rs'
    · simpa [e] using (k.rs i).mod m fun z hz hT => hT.elim (fun e1 => k.dH i z e1 hz) fun e1 => k.dS i j z e hz e1
  · intro z hz
    rcases sH z hz with h1 | h1
    · exact k.newH z h1
    · omega
  · intro i z hz
    unfold upd at hz
    split at hz
    · rcases sR z hz with h1 | h1
      · exact k.newS j z h1
      · omega
    · exact k.newS i z hz
  · intro i z hz hs
    unfold upd at hs
    split at hs
    · exact d' z hz hs
    · rcases sH z hz with h1 | h1
      · exact k.dH i z h1 hs
      · have := old i z hs; omega
  · intro i i' z hne hz hz'
    unfold upd at hz hz'
    split at hz
    · split at hz'
      · omega
      · rcases sR z hz with h1 | h1
        · exact k.dS j i' z (by omega) h1 hz'
        · have := old i' z hz'; omega
    · split at hz'
      · rcases sR z hz' with h1 | h1
        · exact k.dS i j z (by omega) hz h1
        · have := old i z hz; omega
      · exact k.dS i i' z hne hz hz'
  · intro hz
    rcases sH _ hz with h1 | h1
    · exact (k.dis x hx).1 h1
    · have := (k.own.blk x hx).lt; omega
  · intro i hz
    unfold upd at hz
    split at hz
    · rcases sR _ hz with h1 | h1
      · exact (k.dis x hx).2 j h1
      · have := (k.own.blk x hx).lt; omega
    · exact (k.dis x hx).2 i hz

/-- The rows' cells. -/
def rowsC (P Q : Nat → Option Addr) : Array Value := ((List.range 8).flatMap fun k => [.pointer (P k), .pointer (Q k)]).toArray
def thC (t : Nat → Bool) : Array Value := ((List.range 8).map fun k => .bool (t k)).toArray
theorem rowsC_size (P Q : Nat → Option Addr) : (rowsC P Q).size = 16 := rfl
theorem rowsC_at (P Q : Nat → Option Addr) {j : Nat} (hj : j < 8) : (rowsC P Q)[j * 2]? = some (.pointer (P j)) ∧ (rowsC P Q)[j * 2 + 1]? = some (.pointer (Q j)) := by
  have e : ∀ r v, [Value.pointer (P j), Value.pointer (Q j)][r]? = some v → (rowsC P Q)[j * 2 + r]? = some v := fun r v hr => by
    unfold rowsC
    rw [List.getElem?_toArray]
    exact flatMap_at (f := fun k => [Value.pointer (P k), Value.pointer (Q k)]) (fun _ => rfl) (by simp [hj]) hr
  exact ⟨e 0 _ rfl, e 1 _ rfl⟩
theorem rowsC_put (P Q : Nat → Option Addr) {j : Nat} (hj : j < 8) (p q : Option Addr) : putAt (rowsC P Q) (j * 2) [.pointer p, .pointer q] = rowsC (upd P j p) (upd Q j q) := by
  apply Array.ext_getElem?
  intro i
  rw [putAt_get _ _ _ _ (by rw [rowsC_size]; simp only [List.length_cons, List.length_nil]; omega)]
  simp only [List.length_cons, List.length_nil]
  by_cases hi : i < 16
  · have hd : i = (i / 2) * 2 + i % 2 := by omega
    have h2 := rowsC_at (upd P j p) (upd Q j q) (j := i / 2) (by omega)
    have h3 := rowsC_at P Q (j := i / 2) (by omega)
    by_cases e : i / 2 = j
    · rw [if_pos (by omega)]
      rcases Nat.mod_two_eq_zero_or_one i with e2 | e2
      · have hi' : i = (i / 2) * 2 := by omega
        rw [show i - j * 2 = 0 by omega]
        rw [hi', h2.1]
        simp [upd, e]
      · have hi' : i = (i / 2) * 2 + 1 := by omega
        rw [show i - j * 2 = 1 by omega]
        rw [hi', h2.2]
        simp [upd, e]
    · rw [if_neg (by omega)]
      rcases Nat.mod_two_eq_zero_or_one i with e2 | e2
      · have hi' : i = (i / 2) * 2 := by omega
        rw [hi', h2.1, h3.1]
        simp [upd, e]
      · have hi' : i = (i / 2) * 2 + 1 := by omega
        rw [hi', h2.2, h3.2]
        simp [upd, e]
  · rw [if_neg (by omega), Array.getElem?_eq_none (by rw [rowsC_size]; omega), Array.getElem?_eq_none (by rw [rowsC_size]; omega)]
theorem thC_at (t : Nat → Bool) {j : Nat} (hj : j < 8) : (thC t)[j]? = some (.bool (t j)) := by simp [thC, hj]
theorem thC_put (t : Nat → Bool) {j : Nat} (hj : j < 8) : (thC t).setIfInBounds j (.bool true) = thC (upd t j true) := by
  apply Array.ext_getElem?
  intro i
  rw [Array.getElem?_setIfInBounds]
  by_cases hi : i < 8
  · rw [thC_at _ hi]
    by_cases e : j = i
    · subst e; simp [upd, thC, hj]
    · rw [if_neg e, thC_at _ hi]; simp [upd, show i ≠ j by omega]
  · have h1 : ∀ t, (thC t)[i]? = none := fun t => Array.getElem?_eq_none (by simp [thC]; omega)
    rw [h1, h1]
    split <;> simp [thC]; omega
/-- A row made anew is written, and said to be there. -/
theorem as_put {bx b8 b10 b1 tx : Nat} {cx c1 : Array Value} {t : Nat → Bool} {P0 Q0 : Nat → Option Addr} {j : Nat} (hj : j < 8) {p q : Option Addr} {K : Heap → Prop}
    (k : ASE h hh [(bx, cx, tx), (b10, thC t, 34), (b8, rowsC P0 Q0, 33), (b1, c1, 22)] hb s0 s1 (upd P0 j p) (upd Q0 j q))
    (r : ∀ h', ASE h h' [(b10, thC (upd t j true), 34), (b8, rowsC (upd P0 j p) (upd Q0 j q), 33), (b1, c1, 22)] hb s0 s1 (upd P0 j p) (upd Q0 j q) → K h') :
    VIdx (some ⟨b8, 0, none⟩) 8 (j : Int) 2 fun a => storeL a 0 [.pointer p, .pointer q] hh fun h1 => VIdx (some ⟨b10, 0, none⟩) 8 (j : Int) 1 fun a' => VStore h1 a' (.bool true) K := by
  refine ⟨by omega, by omega, VSome.mk ?_⟩
  rw [Int.toNat_natCast, add_plain, Nat.zero_add]
  refine storeL.mkAt _ 0 hh _ (j * 2) (k.own.get 2 rfl) (by rw [rowsC_size]; simp only [List.length_cons, List.length_nil]; omega) (by simp [oneC]) fun h1 hB m _ => ?_
  rw [Nat.add_zero, rowsC_put P0 Q0 hj] at hB
  have k1 := k.set 2 rfl hB m
  refine ⟨by omega, by omega, VSome.mk ?_⟩
  rw [Int.toNat_natCast, add_plain, Nat.zero_add, Nat.mul_one]
  refine VStore.mk (k1.own.get 1 rfl) (by simp [thC]; omega) fun h2 hB2 m2 _ => ?_
  rw [thC_put t hj] at hB2
  exact r h2 (k1.set 1 rfl hB2 m2).tail
end Go.Proofs.Ytcncagllbkohfaa.F
