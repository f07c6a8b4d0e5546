/- Memory: slices' rows, append, make, and what they leave. Conditions: none. -/
import Derived.Test.YtofaihacmoacjaaDoorM1
import Derived.Laws.Append
import Derived.Deep.DeepAppendWide
namespace Go.VC
open Go
set_option linter.unusedSimpArgs false
set_option linter.unusedVariables false

/-- The cells from an address on. -/
def Sl (h : Heap) (a : Option Addr) (vs : List Value) : Prop := ∀ j v, vs[j]? = some v → ∃ ad, a = some ad ∧ cellH h (ad.add j) = some v
theorem add_block (ad : Addr) (j : Nat) : (ad.add j).block = ad.block := by unfold Addr.add; split <;> rfl
theorem add_plain (g o j : Nat) : (⟨g, o, none⟩ : Addr).add j = ⟨g, o + j, none⟩ := by
  unfold Addr.add; split <;> simp_all
def ob (a : Option Addr) : Option Nat := a.map (·.block)
theorem Sl.mod {S : Nat → Prop} {h h' : Heap} {a : Option Addr} {vs : List Value} (k : Sl h a vs) (m : Mod S h h') (hn : ∀ b, ob a = some b → ¬ S b) : Sl h' a vs := fun j v hj => by
  obtain ⟨ad, rfl, hc⟩ := k j v hj
  exact ⟨ad, rfl, cellH_mod hc m (by rw [add_block]; exact hn _ rfl)⟩
theorem Sl.ext {h h' : Heap} {a : Option Addr} {vs : List Value} (k : Sl h a vs) (m : Ext h h') : Sl h' a vs := k.mod m fun _ _ h => h
theorem Sl.nil (h : Heap) (a : Option Addr) : Sl h a [] := fun j v hj => by simp at hj
theorem Sl.lt {h : Heap} {a : Option Addr} {vs : List Value} (k : Sl h a vs) (hne : vs ≠ []) : ∀ b, ob a = some b → b < h.size := fun b hb => by
  obtain ⟨v, r, rfl⟩ := List.exists_cons_of_ne_nil hne
  obtain ⟨ad, rfl, hc⟩ := k 0 v rfl
  have := cellH_lt hc
  rw [add_block] at this
  simp [ob] at hb; subst hb; exact this
theorem Sl.take {h : Heap} {a : Option Addr} {vs : List Value} (k : Sl h a vs) (n : Nat) : Sl h a (vs.take n) := fun j v hj => k j v (by
  rw [List.getElem?_take] at hj; split at hj; (· exact hj); (· cases hj))
theorem Blk.sl {h : Heap} {g : Nat} {cs : Array Value} {t : Nat} (k : Blk h g cs t) (o : Nat) {vs : List Value} (hv : ∀ j v, vs[j]? = some v → cs[o + j]? = some v) : Sl h (some ⟨g, o, none⟩) vs := fun j v hj =>
  ⟨_, rfl, by rw [add_plain, k.cell]; exact hv j v hj⟩
theorem firstCells_run {P : Program} {h : Heap} {a : Option Addr} {vs : List Value} {size n l c : Nat} (k : Sl h a vs) (hl : vs.length = n * size) {w : World} (hw : w.heap = h) :
    (Builtin.firstCells size n (.slice a l c)).run P w = .ok vs.toArray w := by
  cases a with
  | none =>
    have : vs = [] := by
      cases vs with
      | nil => rfl
      | cons v r => obtain ⟨ad, h0, _⟩ := k 0 v rfl; cases h0
    subst this; simp [Builtin.firstCells]
  | some ad =>
    refine run_firstCells_some w size n ad l c vs hl fun j v hj => ?_
    obtain ⟨ad', h0, hc⟩ := k j v hj
    cases h0
    rw [cell_eq, hw]; exact hc
def strCells (s : ByteArray) : List Value := s.data.toList.map fun b => .int .u8 b.toNat
theorem firstCells_str {P : Program} {s : ByteArray} (w : World) : (Builtin.firstCells 1 s.size (.string s)).run P w = .ok (strCells s).toArray w := by
  have h : (Array.map (fun b : UInt8 => Value.int .u8 (b.toNat : Int)) s.data) = (List.map (fun b : UInt8 => Value.int .u8 (b.toNat : Int)) s.data.toList).toArray := by
    rw [← Array.toList_map]
  simp [Builtin.firstCells, strCells, h]
theorem storeL.run' {P : Program} {b o t : Nat} {vs : List Value} {h : Heap} {cs : Array Value} (hb : Blk h b cs t) (hl : o + vs.length ≤ cs.size) (hv : ∀ v ∈ vs, oneC v = true) {w : World} (hw : w.heap = h) :
    ∃ w', (storeCells ⟨b, o, none⟩ vs).run P w = .ok () w' ∧ Rest w w' ∧ Blk w'.heap b (putAt cs o vs) t ∧ Mod (· = b) h w'.heap ∧ w'.heap.size = h.size :=
  storeL.run (storeL.mkAt vs 0 h cs o hb (by omega) hv fun h1 hb1 m s => (⟨hb1, m, s⟩ : Blk h1 b (putAt cs o vs) t ∧ Mod (· = b) h h1 ∧ h1.size = h.size)) hw

/-- What append asks of what it appends: a row of cells, or a text. -/
structure Src (P : Program) (size : Nat) (h : Heap) (x : Value) (n : Nat) (news : List Value) : Prop where
  len : Builtin.lenOf x = Pure.pure n
  cells : ∀ w : World, w.heap = h → (Builtin.firstCells size n x).run P w = .ok news.toArray w
  length : news.length = n * size
theorem Src.slice {P : Program} {size : Nat} {h : Heap} {a : Option Addr} {n c : Nat} {news : List Value} (k : Sl h a news) (hl : news.length = n * size) : Src P size h (.slice a n c) n news :=
  ⟨rfl, fun _ hw => firstCells_run k hl hw, hl⟩
theorem Src.str {P : Program} {h : Heap} (s : ByteArray) : Src P 1 h (.string s) s.size (strCells s) :=
  ⟨rfl, fun w _ => firstCells_str w, by simp [strCells]⟩

theorem append_runs {P : Program} {t tx ty e : TypeId} {i : TypeInfo} {z : Value} {d : TypeDesc} (ht : P.underlying t = some (.slice e)) (htx : P.underlying tx = some d) (hd : ∀ k, d ≠ .int k)
    (hi : P.info? e = some i) (hz : i.zero = some z) (hb0 : 0 < i.bytes) {h : Heap} {x : Value} {n : Nat} {news : List Value} (src : Src P i.size h x n news)
    (hone : ∀ v ∈ news, oneC v = true) {a : Option Addr} {l c : Nat} {olds : List Value} (hold : Sl h a olds) (hlo : olds.length = l * i.size) (hlc : l ≤ c)
    (hbytes : (l + n) * i.bytes ≤ 140737488355328 ∨ (i.bytes = 1 ∧ l + n ≤ 140737488363520)) {R : KV}
    (fits : l + n ≤ c → news ≠ [] → ∃ g o cur, a = some ⟨g, o, none⟩ ∧ Blk h g cur e ∧ o + (l + n) * i.size ≤ cur.size ∧
      ∀ h', Blk h' g (putAt cur (o + l * i.size) news) e → Mod (· = g) h h' → h'.size = h.size → R (.slice a (l + n) c) h')
    (none_ : l + n ≤ c → news = [] → R (.slice a (l + n) c) h)
    (grows : c < l + n → ∀ c' h', l + n ≤ c' → c' < 9223372036854775808 → Blk h' h.size (olds.toArray ++ news.toArray ++ Builtin.zeroCells z.cells (c' - (l + n))) e → Ext h h' → h'.size = h.size + 1 → R (.slice (some ⟨h.size, 0, none⟩) (l + n) c') h') :
    RunsTo P (Builtin.append_ #[t, tx] ty #[.slice a l c, x]) h R := by
  intro w hw
  have hs : sizeP P e = some i.size := by simp [sizeP, hi]
  have hzz : (P.info? e).bind (·.zero) = some z := by simp [hi, hz]
  have hlb : l + n ≤ 140737488363520 := hbytes.elim (fun h => Nat.le_trans (Nat.le_trans (Nat.le_mul_of_pos_right _ hb0) h) (by decide)) fun h => h.2
  have start : (Builtin.append_ #[t, tx] ty #[.slice a l c, x]).run P w = (if l + n ≤ c then (do
      let new ← Builtin.firstCells i.size n x
      if let some a := a then storeCells (a.add (l * i.size)) new.toList
      pure (.slice a (l + n) c)) else (do
    if ((l + n : Nat) : Int) > IntKind.i64.max ∧ (false ∨ (← typeInfo e).bytes = 0) then runtimePanic (.error "growslice: len out of range")
    if Builtin.nextslicecap (l + n) c * (← typeInfo e).bytes > 2 ^ 48 then (if false then runtimePanic (.error "growslice: len out of range") else do
      if !(← Builtin.mayShare i.size l n a x) then mark .noRoom
      unsupported (.resourceLimit "append: a slice or a string whose bytes no memory bears"))
    let newCap ← choose (.appendCap (l + n) c e)
    askRoom (newCap * (← typeInfo e).bytes)
    let old ← Builtin.firstCells i.size l (.slice a l c)
    let new ← Builtin.firstCells i.size n x
    let rest := Builtin.zeroCells (← zeroValue e).cells (newCap - (l + n))
    pure (.slice (some (← newRow e (old ++ new ++ rest))) (l + n) newCap)) : Sem Value).run P w := by
    have hu := fun w => und_run htx w
    cases d
    case int k => exact absurd rfl (hd k)
    all_goals
      simp only [Builtin.append_, List.size_toArray, List.length_cons, List.length_nil, List.getElem?_toArray, List.getElem?_cons_zero, List.getElem?_cons_succ, Sem.run_bind, und_run ht, hu, Result.andThen_ok, size_run hs, src.len, Bool.false_eq_true, if_false, Sem.run_pure, Bool.not_false, if_true, Sem.run_ite]
      rfl
  rw [start]
  by_cases hfit : l + n ≤ c
  · rw [if_pos hfit]
    by_cases hne : news = []
    · have hc := src.cells w hw
      subst hne
      refine ⟨_, w, ?_, .refl w, hw ▸ none_ hfit rfl⟩
      cases a with
      | none => simp only [Sem.run_bind, hc, Result.andThen_ok, Sem.run_pure]
      | some ad => simp only [Sem.run_bind, hc, Result.andThen_ok, Sem.run_pure, storeCells]
    · obtain ⟨g, o, cur, rfl, hb, hsz, k⟩ := fits hfit hne
      obtain ⟨w', e1, r1, hb1, m1, s1⟩ := storeL.run' (P := P) (o := o + l * i.size) hb (by rw [src.length, Nat.add_assoc, ← Nat.add_mul]; exact hsz) hone hw
      refine ⟨_, w', ?_, r1, k _ hb1 m1 s1⟩
      simp only [Sem.run_bind, src.cells w hw, Result.andThen_ok, Sem.run_pure, add_plain, e1]
  · rw [if_neg hfit]
    subst hw
    have hfit' : Builtin.nextslicecap (l + n) c * i.bytes ≤ 281474976710656 := hbytes.elim (fun h => growslice_fits (need := l + n) (old := c) (by omega) h) fun h => growslice_fits_wide (need := l + n) (old := c) (by omega) (by rw [h.1]; omega)
    have hge := show l + n ≤ grownCap w (l + n) c e by simp [grownCap, Question.cut]
    have hcap : grownCap w (l + n) c e < 9223372036854775808 := by
      have h2 : (2 : Nat) ^ 63 = 9223372036854775808 := by decide
      have := Nat.mod_lt (w.tape w.drawn (.appendCap (l + n) c e)) (show 0 < 2 ^ 63 - (l + n) by omega)
      simp only [grownCap, Question.cut]
      omega
    have h63 : ¬ (((l + n : Nat) : Int) > IntKind.i64.max) := by simp [IntKind.max, IntKind.signed, IntKind.bits]; omega
    refine ⟨.slice (some ⟨w.heap.size, 0, none⟩) (l + n) (grownCap w (l + n) c e), { w with drawn := w.drawn + 1, heap := w.heap.push (.cells (olds.toArray ++ news.toArray ++ Builtin.zeroCells z.cells (grownCap w (l + n) c e - (l + n))) e) }, ?_, ⟨rfl, rfl, rfl⟩, ?_⟩
    · have hc1 := firstCells_run (P := P) (l := l) (c := c) hold hlo (w := { w with drawn := w.drawn + 1 }) rfl
      have hc2 := src.cells { w with drawn := w.drawn + 1 } rfl
      have hfit2 : ¬ (Builtin.nextslicecap (l + n) c * i.bytes > 2 ^ 48) := by
        show ¬ (Builtin.nextslicecap (l + n) c * i.bytes > 281474976710656); omega
      simp only [Sem.run_bind, info_run hi, Result.andThen_ok, Sem.run_ite, h63, false_and, if_false, hfit2, Sem.run_pure, run_choose, Question.forced, Bool.false_eq_true, run_askRoom, hc1, hc2, zero_run hzz, newRow, run_newObj, grownCap]
    · exact grows (by omega) _ _ hge hcap (Blk.push _ _ _) (Mod.push _ _) (by simp)
end Go.VC
