/- The law's Hand: kept; made, slot. Conditions: none. -/
import Derived.Test.YtcncagllbkohfaaC3
namespace Go.Proofs.Ytcncagllbkohfaa.F
open Go Go.VC Go.Proofs
set_option linter.unusedSimpArgs false
set_option linter.unusedVariables false
set_option maxRecDepth 100000
attribute [local irreducible] CallsH RunsTo PureTo IntKind.wrap

theorem marks_len (n m : Nat) : (marks n m).length = m := by simp [marks]
theorem marks_at {n m j : Nat} (h : j < m) : (marks n m)[j]? = some (w64 (77 + ((n + j : Nat) : Int))) := by simp [marks, h]
theorem HD.get {h : Heap} {b : Nat} {vs : List Value} {S : Nat → Prop} {a : Option Addr} {c : Nat} (k : HD h b vs S a c) {i : Nat} (hi : i < c) {v : Value} (hv : vs[i]? = some v) {K : Addr → Prop}
    (q : ∀ ad, cellH h ad = some v → K ad) : VIdx a c (i : Int) 1 K := by
  refine ⟨by omega, by omega, ?_⟩
  obtain ⟨ad, rfl, hc⟩ := k.vec.sl i v hv
  exact q _ (by simpa using hc)
theorem HD.set {h : Heap} {b : Nat} {vs : List Value} {S : Nat → Prop} {a : Option Addr} {c : Nat} (k : HD h b vs S a c) {i : Nat} (hi : i < c) {v : Value} {K : Heap → Prop}
    (q : ∀ h1, HD h1 b (vs.set i v) S a c → Mod S h h1 → K h1) : VIdx a c (i : Int) 1 fun ad => VStore h ad v K :=
  Vec.store k.vec hi fun h1 hv m s => q h1 ⟨k.blk.mod m k.apart, hv, k.apart, k.in0, k.in1, fun z hz => by rw [s]; exact k.lt z hz, k.cb⟩ (m.mono fun z hz => .inl (k.in1 z hz))
theorem HD.c0 {h : Heap} {b : Nat} {vs : List Value} {S : Nat → Prop} {a : Option Addr} {c : Nat} (k : HD h b vs S a c) : cellH h ⟨b, 0, none⟩ = some (.slice a c c) := by rw [k.blk.cell]; rfl
theorem kept_spec {h : Heap} {b : Nat} {S : Nat → Prop} {a : Option Addr} {m : Nat} {p : Option Addr} {l cp : Nat} {ns : List Int} (k : HD h b (ints (ns ++ marks l m)) S a (l + m)) (hs : Sl h p (ints ns)) (hl : ns.length = l) (hb : l < 17592186043905) (hp : ns ≠ [] → ∀ z, ob p = some z → ¬ S z) :
    CallsH Try.prog 20 #[.pointer (some ⟨b, 0, none⟩), .slice p l cp] h fun v h' => v = .bool true ∧ ∃ vs, HD h' b vs S a (l + m) ∧ Mod S h h' := by
  refine vf20 _ _ _ _ h _ ?_
  unfold F20
  refine ⟨fun n hh ok i => ∃ (kk : Nat) (vs : List Value), i = (kk : Int) ∧ kk ≤ l + m ∧ n = l + m - kk ∧ ok = true ∧ HD hh b vs S a (l + m) ∧ Mod S h hh ∧ ∀ j, kk ≤ j → vs[j]? = (ints (ns ++ marks l m))[j]?,
    ⟨_, 0, _, rfl, by omega, rfl, rfl, k, .refl _ _, fun _ _ => rfl⟩, ?_⟩
  have hcb := k.cb
  clear k
  rintro n hh _ ok i ⟨kk, vs, rfl, hk, rfl, rfl, k, mm, hv⟩
  refine VSome.mk ⟨_, _, _, k.c0, ?_⟩
  refine cond_split (fun hc => ?_) (fun hc => ?_)
  · have hkl : kk < l + m := of_decide_eq_true hc |> Int.ofNat_lt.1
    obtain ⟨x, hx⟩ : ∃ x, (ns ++ marks l m)[kk]? = some x := ⟨_, List.getElem?_eq_getElem (by rw [List.length_append, marks_len]; omega)⟩
    have hvx : vs[kk]? = some (.int .i64 x) := by rw [hv kk (Nat.le_refl _), ints, List.getElem?_map, hx]; rfl
    refine ⟨fun h' ok want => ok = true ∧ HD h' b (vs.set kk (.int .i64 (-99))) S a (l + m) ∧ Mod S h h', ⟨fun h' want => h' = hh ∧ want = x, ?_, ?_⟩, ?_⟩
    · refine cond_split (fun hd => ?_) (fun hd => ?_)
      · have hd' : kk < l := of_decide_eq_true hd |> Int.ofNat_lt.1
        refine (Sl.mod2 hs mm hp).int (.refl _ _) hl (by omega) (by omega) fun ad n hn hcell => ⟨_, hcell, rfl, ?_⟩
        rw [Int.toNat_natCast] at hn
        rw [List.getElem?_append_left (by omega), hn] at hx
        cases hx; rfl
      · have hd' : ¬ kk < l := fun e => of_decide_eq_false hd (Int.ofNat_lt.2 e)
        refine ⟨rfl, ?_⟩
        rw [List.getElem?_append_right (by omega), marks_at (by omega)] at hx
        cases hx
        unfold w64
        congr 2; omega
    · rintro h3 _ want ⟨rfl, rfl⟩
      refine cond_true rfl (VSome.mk ⟨_, _, _, k.c0, k.get hkl hvx fun ad hcell => ⟨_, hcell, VSome.mk ⟨_, _, _, k.c0, k.set hkl fun h4 k4 m4 => ⟨by simp, k4, mm.trans m4 fun _ h => .inl h⟩⟩⟩⟩)
    · rintro h5 _ ok want ⟨rfl, k5, m5⟩
      refine ⟨_, ?_, kk + 1, _, wrap_nat hkl hcb, hkl, rfl, rfl, k5, m5, fun j hj => ?_⟩
      · omega
      · rw [List.getElem?_set_ne (by omega)]
        exact hv j (by omega)
  · exact ⟨rfl, vs, k, mm⟩

theorem slot_spec (k : Int) (hk : inR k) (h : Heap) : CallsH Try.prog 8 #[.int .i64 k] h fun v h' => ∃ j : Nat, v = .int .i64 j ∧ j < 8 ∧ h' = h := by
  refine vf8 _ h _ ?_
  unfold F8
  obtain ⟨h1, h2⟩ := hk
  refine ⟨fun h' x => h' = h ∧ 0 ≤ x, ?_, ?_⟩
  · refine cond_split (fun hc => ⟨rfl, ?_⟩) (fun hc => ⟨rfl, ?_⟩)
    · have : k < 0 := of_decide_eq_true hc
      rw [wrap_id (by omega) (by omega)]; omega
    · have : ¬ k < 0 := of_decide_eq_false hc
      omega
  · rintro h3 _ x ⟨rfl, hx⟩
    refine ⟨by omega, (x.toNat % 8), ?_, Nat.mod_lt _ (by omega), rfl⟩
    rw [Int.tmod_eq_emod_of_nonneg hx]
    congr 1; omega

/-- A row of the law: the sliding row and the document's, both there or neither. -/
def RS (h : Heap) (p q : Option Addr) (sz : Int) (held : List Int) (S : Nat → Prop) : Prop :=
  (∀ z, S z → z < h.size) ∧ ((p = none ∧ q = none) ∨ ∃ b1 b2 S1 S2, p = some ⟨b1, 0, none⟩ ∧ q = some ⟨b2, 0, none⟩ ∧ SL h b1 sz held S1 ∧ SR h b2 sz held S2 ∧ (∀ z, S1 z → ¬ S2 z) ∧ (∀ z, S1 z → S z) ∧ ∀ z, S2 z → S z)
theorem RS.none (h : Heap) (sz : Int) : RS h none none sz [] fun _ => False := ⟨fun _ h => h.elim, .inl ⟨rfl, rfl⟩⟩
theorem RS.mod {h h' : Heap} {p q : Option Addr} {sz : Int} {held : List Int} {S T : Nat → Prop} (k : RS h p q sz held S) (m : Mod T h h') (hd : ∀ z, S z → ¬ T z) : RS h' p q sz held S := by
  obtain ⟨hl, k⟩ := k
  refine ⟨fun z hz => Nat.lt_of_lt_of_le (hl z hz) m.size, k.imp id ?_⟩
  rintro ⟨b1, b2, S1, S2, rfl, rfl, k1, k2, hd12, hs1, hs2⟩
  exact ⟨b1, b2, S1, S2, rfl, rfl, k1.mod m fun z hz => hd z (hs1 z hz), k2.mod m fun z hz => hd z (hs2 z hz), hd12, hs1, hs2⟩
theorem SL.wide {S T : Nat → Prop} {h : Heap} {b : Nat} {sz : Int} {held : List Int} (k : SL h b sz held S) (hs : ∀ z, S z → T z) (hl : ∀ z, T z → z < h.size) : SL h b sz held T := by
  obtain ⟨x, y, k, w⟩ := k
  exact ⟨x, y, k.wide hs hl, w⟩
theorem made_spec (sz : Int) (h : Heap) : CallsH Try.prog 7 #[.int .i64 sz] h fun v h' => ∃ p q S, v = .tuple #[.agg #[.pointer p, .pointer q], .bool true] ∧ RS h' p q sz [] S ∧ (∀ z, S z → h.size ≤ z) ∧ Ext h h' := by
  refine vf7 _ h _ ?_
  unfold F7
  have hO := Lcl.start h
  refine hO.vnew fun b1 h1 _ hO => ?_
  refine CallsH.mono (sl_new sz h1) ?_
  rintro _ h2 (⟨hn, rfl, rfl⟩ | ⟨hn, b, rfl, k1, m1, hb⟩)
  · refine ⟨_, _, rfl, ?_⟩
    refine CallsH.mono (rnew_spec sz h2) ?_
    rintro _ h3 (⟨_, rfl, rfl⟩ | ⟨hn', _⟩)
    · refine ⟨_, _, rfl, cond_true rfl ?_⟩
      repeat' first
        | ((with_reducible show VNew _ _ _); refine Own.vnew hO fun _ _ _ hO2 => ?_; clear hO; have hO := hO2; clear hO2)
        | ((with_reducible show VSome _ _); refine VSome.mk ?_)
        | ((with_reducible show Exists _); refine ⟨_, Own.cell hO 0 (by rfl) (by rfl), ?_⟩)
        | ((with_reducible show storeL _ _ _ _ _); refine Own.vstoreAll hO 0 (by rfl) (by rfl) (by rfl) fun _ hO2 => ?_; clear hO; have hO := hO2; clear hO2)
        | ((with_reducible show VStore _ _ _ _); refine Own.vstore hO 0 (by rfl) (by simp) fun _ hO2 => ?_; clear hO; have hO := hO2; clear hO2)
        | ((with_reducible show And _ _); refine ⟨Own.cell hO 0 (by rfl) (by rfl), ?_⟩)
        | ((with_reducible show Exists _); refine ⟨_, _, _, Own.cell hO 0 (by rfl) (by rfl), ?_⟩)
        | ((with_reducible show And _ _); refine And.intro (And.intro (Own.cell hO 0 (by rfl) (by rfl)) ?_) ?_)
        | ((with_reducible show @Eq (Option Value) _ _); exact Own.cell hO 0 (by rfl) (by rfl))
        | ((with_reducible show Exists _); refine ⟨_, Own.old hO (by assumption) id, ?_⟩)
        | ((with_reducible show Exists _); refine ⟨_, _, _, Own.old hO (by assumption) id, ?_⟩)
        | ((with_reducible show And _ _); refine ⟨Own.old hO (by assumption) id, ?_⟩)
        | ((with_reducible show Exists _); refine ⟨_, Own.old hO (by assumption) (by assumption), ?_⟩)
        | ((with_reducible show Exists _); refine ⟨_, _, _, Own.old hO (by assumption) (by assumption), ?_⟩)
        | ((with_reducible show And _ _); refine ⟨Own.old hO (by assumption) (by assumption), ?_⟩)
        | fail
      exact ⟨none, none, _, rfl, RS.none _ _, fun _ h => h.elim, hO.ext⟩
    · exact absurd hn' hn
  · refine ⟨_, _, rfl, ?_⟩
    refine CallsH.mono (rnew_spec sz h2) ?_
    rintro _ h3 (⟨hn', _⟩ | ⟨_, b', rfl, k2, m2, hb'⟩)
    · exact absurd hn hn'
    · refine ⟨_, _, rfl, cond_true rfl ?_⟩
      have hb1 : b1 < h1.size := (hO.get 0 rfl).lt
      have hO := (hO.next m1).next m2
      have e0 : h.size ≤ h1.size := by
        have := ‹Lcl h h1 _›.ext.size; exact this
      have e1 := m1.size
      refine storeL.all (hO.get 0 rfl) rfl (List.all_eq_true.1 rfl) fun h4 hB4 m4 s4 => ?_
      refine ⟨_, by rw [hB4.cell]; rfl, _, by rw [hB4.cell]; rfl, _, _, fun z => z = b ∨ z = b', rfl, ⟨?_, .inr ⟨b, b', _, _, rfl, rfl, (k1.ext m2).mod m4 fun z hz e => by omega, k2.mod m4 fun z hz e => by omega, fun z hz e => ?_, fun z hz => .inl hz, fun z hz => .inr hz⟩⟩, ?_, ?_⟩
      · have f1 := k1.lt b rfl
        have f2 := k2.lt b' rfl
        have f3 := m2.size
        rintro z (rfl | rfl) <;> omega
      · have f1 := k1.lt b rfl
        omega
      · rintro z (rfl | rfl) <;> omega
      · exact (hO.change 0 rfl hB4 m4).ext
end Go.Proofs.Ytcncagllbkohfaa.F
