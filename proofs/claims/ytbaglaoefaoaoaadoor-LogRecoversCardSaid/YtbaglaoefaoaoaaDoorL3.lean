/- Lists of rows of bytes: read, held, grown, over. Conditions: none. -/
import Derived.Test.YtbaglaoefaoaoaaDoorL2
namespace Go.Proofs.YtbaglaoefaoaoaaDoor.F
open Go Go.VC Go.Proofs
set_option linter.unusedSimpArgs false
set_option linter.unusedVariables false
set_option maxRecDepth 100000
attribute [local irreducible] CallsH RunsTo PureTo

/-- A row of bytes, where it lies. -/
structure Sg where
  a : Option Addr
  l : Nat
  c : Nat
  bs : List UInt8
def sgV (s : Sg) : Value := .slice s.a s.l s.c
abbrev BS (x : Sg) : A := BV x.a x.l x.c x.bs
theorem oneC_sg (xs : List Sg) : ∀ v ∈ xs.map sgV, oneC v = true := by
  intro v hv
  obtain ⟨b, _, rfl⟩ := List.mem_map.1 hv
  rfl
/-- Lists of rows that others hold, away from F. -/
def RoL (F : Nat → Prop) (h : Heap) (a : Option Addr) (l : Nat) (bss : List (List UInt8)) : Prop :=
  ∃ xs : List Sg, Ro F h a (xs.map sgV) ∧ (∀ x ∈ xs, Ro F h x.a (bytesV x.bs) ∧ x.bs.length = x.l ∧ x.l ≤ x.c) ∧ xs.map Sg.bs = bss ∧ bss.length = l
/-- A list of rows that is held. -/
def LV (a : Option Addr) (l c : Nat) (bss : List (List UInt8)) : A :=
  A.ex fun xs : List Sg => A.fact (xs.map Sg.bs = bss) (A.all [A.vec 26 1 a l c (xs.map sgV), A.all (xs.map BS)])
variable {S F G : Nat → Prop} {h0 h h1 : Heap} {L R L' : List A} {a : Option Addr} {l c : Nat} {bs : List UInt8} {bss : List (List UInt8)}
theorem RoL.mod (k : RoL F h a l bss) (m : Mod F h h1) : RoL F h1 a l bss := by
  obtain ⟨xs, q1, q2, q3, q4⟩ := k
  exact ⟨xs, q1.mod m, fun x hx => ⟨(q2 x hx).1.mod m, (q2 x hx).2⟩, q3, q4⟩
theorem RoL.at (k : RoL S h0 a l bss) (m : Mod S h0 h) (hf : ∀ b, F b → S b ∨ h0.size ≤ b) : RoL F h a l bss := by
  obtain ⟨xs, q1, q2, q3, q4⟩ := k
  exact ⟨xs, q1.at m hf, fun x hx => ⟨(q2 x hx).1.at m hf, (q2 x hx).2⟩, q3, q4⟩
theorem RoL.in (k : RoL S h0 a l bss) (s : St S h0 h L) : RoL none_ h a l bss := k.at s.ext fun _ h => h.elim
theorem RoL.sub (k : RoL F h a l bss) (hg : ∀ b, G b → F b ∨ h.size ≤ b) : RoL G h a l bss := by
  obtain ⟨xs, q1, q2, q3, q4⟩ := k
  exact ⟨xs, q1.sub hg, fun x hx => ⟨(q2 x hx).1.sub hg, (q2 x hx).2⟩, q3, q4⟩
/-- One row of a list. -/
theorem RoL.one (k : RoL F h a l bss) {i : Int} {K : Addr → Prop} (h0 : 0 ≤ i) (hi : i < l)
    (q : ∀ ad (x : Sg), bss[i.toNat]? = some x.bs → cellH h ad = some (sgV x) → Ro F h x.a (bytesV x.bs) → x.bs.length = x.l → x.l ≤ x.c → K ad) : VIdx a l i 1 K := by
  obtain ⟨xs, q1, q2, q3, q4⟩ := k
  have hl : xs.length = l := by rw [← q4, ← q3, List.length_map]
  refine q1.sl.one hl h0 hi fun ad x hx hc => q ad x ?_ hc (q2 x (List.mem_of_getElem? hx)).1 (q2 x (List.mem_of_getElem? hx)).2.1 (q2 x (List.mem_of_getElem? hx)).2.2
  rw [← q3, List.getElem?_map, hx]; rfl
theorem A.vec_ro {F G : Nat → Prop} {e sz : Nat} {vs : List Value} (k' : (A.vec e sz a l c vs).P G h) (d : ∀ b, F b → ¬ G b) : Ro F h a vs := by
  have : Holds [A.vec e sz a l c vs] G h := holds1.2 k'
  exact this.ro d
theorem LV.roL (k' : (LV a l c bss).P G h) (d : ∀ b, F b → ¬ G b) : RoL F h a l bss := by
  obtain ⟨xs, he, F1, F2, k1, k2, dd, e⟩ := k'
  have hlen := k1.1.len
  rw [List.length_map, Nat.mul_one] at hlen
  refine ⟨xs, A.vec_ro k1 fun b hb h1 => d b hb ((e b).2 (.inl h1)), fun x hx => ?_, he, by rw [← he, List.length_map]; exact hlen⟩
  obtain ⟨F', k3, hs⟩ := (show Holds (xs.map BS) F2 h from k2.one).get (List.mem_map_of_mem hx)
  refine ⟨A.vec_ro k3 fun b hb h1 => d b hb ((e b).2 (.inr (hs b h1))), ?_, k3.1.le⟩
  have := k3.1.len
  rwa [bytesV_len, Nat.mul_one] at this
class InL (L : List A) (a : Option Addr) (l c : outParam Nat) (bss : outParam (List (List UInt8))) : Prop where
  mem : LV a l c bss ∈ L
instance (priority := high) InL.head : InL (LV a l c bss :: L) a l c bss := ⟨List.mem_cons_self⟩
instance InL.tail {x : A} [k : InL L a l c bss] : InL (x :: L) a l c bss := ⟨List.mem_cons_of_mem _ k.mem⟩
theorem _root_.Go.VC.St.roL (k : St S h0 h L) {a : Option Addr} [q : InL L a l c bss] : RoL none_ h a l bss := by
  obtain ⟨F, hh, hf⟩ := k.own
  obtain ⟨F', k', _⟩ := hh.get q.mem
  exact LV.roL k' fun _ h => h.elim
theorem _root_.Go.VC.Holds.roL (k : Holds R G h) (d : ∀ b, F b → ¬ G b) {a : Option Addr} [q : InL R a l c bss] : RoL F h a l bss := by
  obtain ⟨F', k', hs⟩ := k.get q.mem
  exact LV.roL k' fun b hb h1 => d b hb (hs b h1)
theorem LV.close {xs : List Sg} (he : xs.map Sg.bs = bss) (k : St S h0 h (A.vec 26 1 a l c (xs.map sgV) :: A.all (xs.map BS) :: R)) : St S h0 h (LV a l c bss :: R) :=
  St.closes (f := fun xs : List Sg => A.fact (xs.map Sg.bs = bss) (A.all [A.vec 26 1 a l c (xs.map sgV), A.all (xs.map BS)])) (x := xs) (St.mkfact he (St.close (L := [_, _]) k))
theorem LV.open (k : St S h0 h (LV a l c bss :: R)) : ∃ xs : List Sg, xs.map Sg.bs = bss ∧ St S h0 h (A.vec 26 1 a l c (xs.map sgV) :: A.all (xs.map BS) :: R) := by
  obtain ⟨xs, k⟩ := St.opens k
  obtain ⟨he, k⟩ := k.facts
  exact ⟨xs, he, St.open k⟩
theorem _root_.Go.VC.St.lnil (k : St S h0 h R) : St S h0 h (LV none 0 0 [] :: R) := LV.close (xs := []) rfl (k.all0.vnil 26 (by omega))
theorem LV.len (k : St S h0 h (LV a l c bss :: R)) : bss.length = l ∧ l ≤ c ∧ c < 9223372036854775808 := by
  obtain ⟨xs, rfl, w⟩ := LV.open k
  obtain ⟨q1, _, q2⟩ := St.vec (a := a) w
  have := q1.len
  rw [List.length_map, Nat.mul_one] at this
  exact ⟨by rw [List.length_map]; exact this, q1.le, q2⟩
theorem BS.len {x : Sg} (k : St S h0 h (BS x :: R)) : x.bs.length = x.l ∧ x.l ≤ x.c ∧ x.c < 9223372036854775808 := by
  obtain ⟨q1, _, q2⟩ := St.vec (a := x.a) k
  have := q1.len
  rw [bytesV_len, Nat.mul_one] at this
  exact ⟨this, q1.le, q2⟩
theorem LV.push {x : Sg} {b : Nat} (k : St S h0 h (A.blk b #[sgV x] 26 :: BS x :: LV a l c bss :: R)) (hb : (l + 1) * 24 ≤ 140737488355328) {K : KV}
    (q : ∀ a' c' h', St S h0 h' (LV a' (l + 1) c' (bss ++ [x.bs]) :: R) → K (.slice a' (l + 1) c') h') : RunsTo Tryd.prog (Builtin.append_ #[25, 25] 25 #[.slice a l c, .slice (some ⟨b, 0, none⟩) 1 1]) h K := by
  obtain ⟨xs, rfl, w⟩ := LV.open k.pull2
  clear k
  have k := w
  have hs : Sl h (some ⟨b, 0, none⟩) [sgV x] := k.slB (b := b)
  refine St.app T25 und25 (by simp) k (Src.slice hs rfl) (oneC_sg [x]) hb fun a' c' h' k => q a' c' h' ?_
  have k := k.pull2.drop
  refine LV.close (xs := xs ++ [x]) (by simp) ?_
  rw [List.map_append, List.map_append]
  refine St.pull1 (St.allPerm (L := BS x :: xs.map BS) (St.allIn ?_) (List.perm_append_singleton _ _).symm)
  exact k.pull1.pull2
theorem LV.cut (k : St S h0 h (LV a l c bss :: R)) {lo hi : Nat} {x y z : Int} (hx : x = lo) (hy : y = hi) (hz : z = c) (h1 : lo ≤ hi) (h2 : hi ≤ l) {K : Option Addr → Nat → Nat → Prop}
    (q : ∀ a', St S h0 h (LV a' (hi - lo) (c - lo) ((bss.take hi).drop lo) :: R) → K a' (hi - lo) (c - lo)) : VSlice 1 a c x y z K := by
  have hlen := LV.len k
  obtain ⟨xs, rfl, w⟩ := LV.open k
  clear k
  have k := w
  refine k.cut hx hy hz h1 h2 (by omega) (Nat.le_refl _) fun a' k => q a' ?_
  rw [Nat.mul_one, Nat.mul_one, ← List.map_take, ← List.map_drop] at k
  refine LV.close (xs := (xs.take hi).drop lo) (by rw [List.map_drop, List.map_take]) ?_
  have e : xs = xs.take lo ++ ((xs.take hi).drop lo ++ xs.drop hi) := by
    rw [← List.append_assoc]
    have e1 : xs.take lo ++ (xs.take hi).drop lo = xs.take hi := by
      have := List.take_append_drop lo (xs.take hi)
      rwa [List.take_take, Nat.min_eq_left h1] at this
    rw [e1, List.take_append_drop]
  have k := k.pull1
  have k : St S h0 h (A.all ((xs.take lo).map BS ++ (((xs.take hi).drop lo).map BS ++ (xs.drop hi).map BS)) :: A.vec 26 1 a' (hi - lo) (c - lo) (((xs.take hi).drop lo).map sgV) :: R) := by
    rw [← List.map_append, ← List.map_append, ← e]; exact k
  exact (k.allParts.drop.allParts.pull1.drop).pull1
end Go.Proofs.YtbaglaoefaoaoaaDoor.F
