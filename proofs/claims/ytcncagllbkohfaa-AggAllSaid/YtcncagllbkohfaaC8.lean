/- The law AggAll answers true. Conditions: none. -/
import Derived.Test.YtcncagllbkohfaaC7
namespace Go.Proofs.Ytcncagllbkohfaa.F
open Go Go.VC Go.Proofs
set_option linter.unusedSimpArgs false
set_option linter.unusedVariables false
set_option maxRecDepth 100000
attribute [local irreducible] CallsH RunsTo PureTo IntKind.wrap

structure OpM where
  kind : Int
  which : Int
  A : Acc
  B : Acc
  po : Option Addr
  l : Nat
  cp : Nat
  ns : List Int
  fn : Int
def opC (o : OpM) : List Value := [.int .i64 o.kind, .int .i64 o.which, .int .i64 o.A.c, .int .i64 o.A.s, .int .i64 o.A.lo, .int .i64 o.A.hi, .int .i64 o.B.c, .int .i64 o.B.s, .int .i64 o.B.lo, .int .i64 o.B.hi, .slice o.po o.l o.cp, .int .i64 o.fn]
theorem opC_len (o : OpM) : (opC o).length = 12 := rfl
theorem all_spec (s0 s1 : Int) (ops : List OpM) (p : Option Addr) (l c : Nat) (h : Heap) (hs : Sl h p (ops.flatMap opC)) (hl : ops.length = l) (hb : l < 17592186043905)
    (hok : ∀ o ∈ ops, Sl h o.po (ints o.ns) ∧ o.ns.length = o.l ∧ o.l < 17592186043905 ∧ inR o.which) :
    CallsH Try.prog 3 #[.agg #[.int .i64 s0, .int .i64 s1], .slice p l c] h (fun v h' => v = .bool true ∧ Ext h h') := by
  refine vf3 _ _ _ _ _ h _ ?_
  unfold F3
  have hL := Lcl.start h
  refine hL.vnew fun b1 h1 _ hL => ?_
  refine CallsH.mono (begun_spec h1) ?_
  rintro _ h2 ⟨rfl, m2⟩
  have hL := hL.next m2
  refine ⟨_, rfl, cond_false rfl ?_⟩
  refine VNew.mk fun b6 h3 hb6 hB6 m3 s3 => ?_
  have e0 := hL.ext.size
  have e1 := (hL.get 0 rfl).lt
  have kE : ASE h h3 [(b1, #[.int .i64 s0, .int .i64 s1], 22)] b6 s0 s1 (fun _ => none) (fun _ => none) := ⟨[], fun z => z = b6, none, 0, fun _ => [], fun _ _ => False, hL.next m3,
    ⟨hB6, Vec.nil _ _ _, by simp [ob], rfl, by simp [ob], fun z hz => by subst hz; exact hB6.lt, by omega⟩, fun k => RS.none _ _, fun z hz => by omega, fun _ _ h => h.elim, fun _ _ _ h => h, fun _ _ _ _ h => h.elim, fun x hx => ⟨fun e => by
      have := List.mem_singleton.1 hx
      subst this
      simp only at e; omega, fun _ h => h⟩⟩
  refine kE.vnew fun b8 h4 kE => kE.vnew fun b10 h5 kE => ?_
  refine ⟨fun n hh y i => ∃ (kk : Nat) (P Q : Nat → Option Addr) (t : Nat → Bool), i = (kk : Int) ∧ kk ≤ 2 ∧ n = 2 - kk ∧ ASE h hh [(b10, thC t, 34), (b8, rowsC P Q, 33), (b1, #[.int .i64 s0, .int .i64 s1], 22)] b6 s0 s1 P Q,
    ⟨_, 0, fun _ => none, fun _ => none, fun _ => false, rfl, by omega, rfl, kE⟩, ?_⟩
  clear kE hL m2 m3 s3 hB6 e1
  rintro n hh _ y i ⟨kk, P, Q, t, rfl, hk, rfl, kE⟩
  refine cond_split (fun hc => ?_) (fun hc => ?_)
  · have hk2 : kk < 2 := by
      have : (kk : Int) < 2 := of_decide_eq_true hc
      omega
    have hj2 : kk % 2 = kk := Nat.mod_eq_of_lt hk2
    have ej : (kk : Int) = ((kk % 2 : Nat) : Int) := by rw [hj2]
    generalize hj : kk = j at *
    clear hc
    have key : ∀ (K : Addr → Prop), VIdx (some ⟨b1, 0, none⟩) 2 ((j % 2 : Nat) : Int) 1 K → VIdx (some ⟨b1, 0, none⟩) 2 (j : Int) 1 K := fun K hK => by rw [ej]; exact hK
    refine key _ ?_
    refine ⟨by omega, by omega, VSome.mk ?_⟩
    rw [Int.toNat_natCast, add_plain, Nat.zero_add, Nat.mul_one]
    refine ⟨szOf s0 s1 j, ?_, ?_⟩
    · rw [(kE.own.get 2 rfl).cell]
      unfold szOf
      rcases Nat.mod_two_eq_zero_or_one j with e2 | e2 <;> rw [e2] <;> rfl
    refine CallsH.mono (as_made kE j) ?_
    rintro _ h5 ⟨pn, qn, rfl, kE⟩
    refine ⟨_, _, _, rfl, kE.vnew fun bx h6 kE => ?_⟩
    refine storeL.all (kE.own.get 0 rfl) rfl (List.all_eq_true.1 rfl) fun h7 hB7 m7 _ => ?_
    replace kE := kE.set 0 rfl hB7 m7
    refine cond_false rfl ⟨pn, by rw [hB7.cell]; rfl, qn, by rw [hB7.cell]; rfl, ?_⟩
    exact as_put (show j < 8 by omega) kE fun h8 kE => ⟨_, by omega, j + 1, _, _, _, wrap_nat hk2 (by omega), by omega, rfl, kE⟩
  refine ⟨fun n hh y i => ∃ (kk : Nat) (P Q : Nat → Option Addr) (t : Nat → Bool), i = (kk : Int) ∧ kk ≤ l ∧ n = l - kk ∧ ASE h hh [(b10, thC t, 34), (b8, rowsC P Q, 33), (b1, #[.int .i64 s0, .int .i64 s1], 22)] b6 s0 s1 P Q,
    ⟨_, 0, _, _, _, rfl, by omega, rfl, kE⟩, ?_⟩
  clear kE hc hk
  rintro n hh _ y i ⟨kk, P, Q, t, rfl, hk, rfl, kE⟩
  refine cond_split (fun hc => ?_) (fun hc => ?_)
  · have hkl : kk < l := Int.ofNat_lt.1 (of_decide_eq_true hc)
    obtain ⟨o, ho⟩ : ∃ o, ops[kk]? = some o := ⟨_, List.getElem?_eq_getElem (by omega)⟩
    obtain ⟨ok1, ok2, ok3, ok4⟩ := hok o (List.mem_of_getElem? ho)
    have hidx : ∀ {hh : Heap} {K : Addr → Prop}, Ext h hh → (∀ ad : Addr, (∀ r v, (opC o)[r]? = some v → cellH hh (addN ad r) = some v) → K ad) → VIdx p l (kk : Int) 12 K := fun m r =>
      (hs.ext m).elem (by rw [flatMap_len opC_len]; omega) (by omega) (by omega) (by omega) fun ad _ hcell => r ad fun r' v hv => hcell r' v (by rw [Int.toNat_natCast]; exact flatMap_at opC_len ho hv)
    refine hidx kE.own.ext fun ad get => ⟨_, get 1 _ rfl, ?_⟩
    refine CallsH.mono (slot_spec o.which ok4 hh) ?_
    rintro _ _ ⟨j, rfl, hj, rfl⟩
    refine ⟨_, rfl, ?_⟩
    clear get ad
    refine ⟨fun h' y => ∃ (P Q : Nat → Option Addr) (t : Nat → Bool), ASE h h' [(b10, thC t, 34), (b8, rowsC P Q, 33), (b1, #[.int .i64 s0, .int .i64 s1], 22)] b6 s0 s1 P Q, ?_, ?_⟩
    · refine hidx kE.own.ext fun ad get => ⟨_, get 0 _ rfl, ?_⟩
      have ej : Int.tmod (j : Int) 2 = ((j % 2 : Nat) : Int) := by
        rw [Int.tmod_eq_emod_of_nonneg (by omega)]; omega
      rw [ej]
      clear get ad
      refine cond_split (fun hd => ?_) (fun hd => ?_)
      · refine ⟨by omega, ?_⟩
        refine ⟨by omega, by omega, VSome.mk ?_⟩
        rw [Int.toNat_natCast, add_plain, Nat.zero_add, Nat.mul_one]
        refine ⟨szOf s0 s1 j, ?_, ?_⟩
        · rw [(kE.own.get 2 rfl).cell]
          unfold szOf
          rcases Nat.mod_two_eq_zero_or_one j with e2 | e2 <;> rw [e2] <;> rfl
        refine CallsH.mono (as_made kE j) ?_
        rintro _ h5 ⟨pn, qn, rfl, kE⟩
        refine ⟨_, _, _, rfl, kE.vnew fun bx h6 kE => ?_⟩
        refine storeL.all (kE.own.get 0 rfl) rfl (List.all_eq_true.1 rfl) fun h7 hB7 m7 _ => ?_
        replace kE := kE.set 0 rfl hB7 m7
        refine cond_false rfl ⟨pn, by rw [hB7.cell]; rfl, qn, by rw [hB7.cell]; rfl, ?_⟩
        exact as_put hj kE fun h8 kE => ⟨_, _, _, kE⟩
      · refine ⟨by omega, by omega, VSome.mk ?_⟩
        rw [Int.toNat_natCast, add_plain, Nat.zero_add, Nat.mul_one]
        refine ⟨t j, by rw [(kE.own.get 0 rfl).cell]; exact thC_at t hj, ?_⟩
        refine cond_split (fun he => ?_) (fun he => ⟨_, _, _, kE⟩)
        refine ⟨by omega, ?_⟩
        refine ⟨by omega, by omega, VSome.mk ?_⟩
        rw [Int.toNat_natCast, add_plain, Nat.zero_add, Nat.mul_one]
        refine ⟨szOf s0 s1 j, ?_, ?_⟩
        · rw [(kE.own.get 2 rfl).cell]
          unfold szOf
          rcases Nat.mod_two_eq_zero_or_one j with e2 | e2 <;> rw [e2] <;> rfl
        refine CallsH.mono (as_made kE j) ?_
        rintro _ h5 ⟨pn, qn, rfl, kE⟩
        refine ⟨_, _, _, rfl, kE.vnew fun bx h6 kE => ?_⟩
        refine storeL.all (kE.own.get 0 rfl) rfl (List.all_eq_true.1 rfl) fun h7 hB7 m7 _ => ?_
        replace kE := kE.set 0 rfl hB7 m7
        refine cond_false rfl ⟨pn, by rw [hB7.cell]; rfl, qn, by rw [hB7.cell]; rfl, ?_⟩
        exact as_put hj kE fun h8 kE => ⟨_, _, _, kE⟩
    · clear kE P Q t
      rintro h9 _ y9 ⟨P, Q, t, kE⟩
      refine ⟨by omega, by omega, VSome.mk ?_⟩
      rw [Int.toNat_natCast, add_plain, Nat.zero_add]
      have hB8 := kE.own.get 1 rfl
      refine ⟨P j, by rw [hB8.cell]; exact (rowsC_at P Q hj).1, Q j, by rw [hB8.cell]; exact (rowsC_at P Q hj).2, ?_⟩
      refine hidx kE.own.ext fun ad get => ⟨_, get 0 _ rfl, _, get 1 _ rfl, _, get 2 _ rfl, _, get 3 _ rfl, _, get 4 _ rfl, _, get 5 _ rfl, _, get 6 _ rfl, _, get 7 _ rfl, _, get 8 _ rfl, _, get 9 _ rfl, _, _, _, get 10 _ rfl, _, get 11 _ rfl, ?_⟩
      refine CallsH.mono (as_plays kE j o.kind o.which o.fn o.A o.B o.po o.l o.cp o.ns ok1 ok2 ok3) ?_
      rintro _ h10 ⟨rfl, kE⟩
      exact ⟨_, rfl, cond_false rfl ⟨_, by omega, kk + 1, P, Q, t, wrap_nat hkl (by omega), hkl, rfl, kE⟩⟩
  · exact ⟨rfl, kE.own.ext⟩
end Go.Proofs.Ytcncagllbkohfaa.F
