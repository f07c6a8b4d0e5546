/- The document's log: reading a segment. Conditions: none. -/
import Derived.Test.YtbaglaoefaoaoaaDoorL8
namespace Go.Proofs.YtbaglaoefaoaoaaDoor.F
open Go Go.VC Go.Proofs
set_option linter.unusedSimpArgs false
set_option linter.unusedVariables false
set_option maxRecDepth 100000
attribute [local irreducible] CallsH RunsTo PureTo

variable {S F G : Nat → Prop} {h0 h h1 : Heap} {L R L' : List A} {a : Option Addr} {l c : Nat} {bs : List UInt8}
theorem of_at (p : Nat) (hs : Sl h a (bytesV bs)) (hl : bs.length = l) (h4 : p + 4 ≤ l) (hb : l < 9223372036854775808) {x : Int} (hx : x = p) : CallsH Tryd.prog 60 #[.slice a l c, .int .i64 x] h (fun v h' => v = u32V (w32 bs p) ∧ h' = h) := by
  subst hx
  exact of_spec p hs hl (drop_four (by omega)) hb
theorem ne8 (x : UInt8) (n : Nat) (hn : n < 256) : ((x.toNat : Int) != (n : Int)) = decide (x ≠ UInt8.ofNat n) := by
  have hx := x.toNat_lt
  have e : (UInt8.ofNat n).toNat = n := by rw [UInt8.toNat_ofNat']; omega
  by_cases h : x = UInt8.ofNat n
  · rw [decide_eq_false (by simpa using h)]
    have : (x.toNat : Int) = n := by rw [h, e]
    rw [this]; simp
  · rw [decide_eq_true (by simpa using h)]
    have : x.toNat ≠ n := fun h1 => h (UInt8.toNat_inj.1 (by rw [e]; exact h1))
    have : (x.toNat : Int) ≠ n := by omega
    simpa using this
theorem magic_ne {bs : List UInt8} {i : Nat} {x : UInt8} (h : bs[i]? = some x) (hi : i < 4) (hx : some x ≠ magicB[i]?) : bs.take 4 ≠ magicB := by
  intro e
  have : (bs.take 4)[i]? = some x := by rw [List.getElem?_take, if_pos hi, h]
  rw [e] at this
  exact hx this.symm
theorem magic_eq {bs : List UInt8} (h0 : bs[0]? = some 114) (h1 : bs[1]? = some 108) (h2 : bs[2]? = some 111) (h3 : bs[3]? = some 103) : bs.take 4 = magicB := by
  match bs, h0, h1, h2, h3 with
  | [], h, _, _, _ => simp at h
  | [_], _, h, _, _ => simp at h
  | [_, _], _, _, h, _ => simp at h
  | [_, _, _], _, _, _, h => simp at h
  | b0 :: b1 :: b2 :: b3 :: r, h0, h1, h2, h3 =>
    simp at h0 h1 h2 h3
    subst h0 h1 h2 h3
    rfl
theorem rread_spec (hs : Sl h a (bytesV bs)) (hl : bs.length = l) (hlc : l ≤ c) (hb : l ≤ 1099511627776) :
    CallsH Tryd.prog 49 #[.slice a l c] h (fun v h' => (readS bs = none ∧ (∃ b x a2 l2 c2 e, v = .agg #[.bool b, .bool true, .int .u32 x, .slice a2 l2 c2, .int .i64 e]) ∧ Ext h h') ∨
      (∃ r a2 l2 c2 e, readS bs = some r ∧ v = .agg #[.bool r.short, .bool false, u32V r.num, .slice a2 l2 c2, .int .i64 (e : Nat)] ∧ (r.recs ≠ [] → e = r.fin) ∧ St none_ h h' [LV a2 l2 c2 r.recs])) := by
  refine vf49 _ _ _ h _ ?_
  unfold F49
  have k := St.fresh h
  refine k.vnew fun b1 h1 k => ?_
  refine cond_split (fun hc => ?_) (fun hc => ?_)
  · have hlt : l < 12 := by
      have : (l : Int) < 12 := of_decide_eq_true hc
      omega
    repeat' first
      | ((with_reducible show VNew _ _ _); refine St.vnew k fun _ _ k => ?_)
      | ((with_reducible show VSome _ _); refine VSome.mk ?_)
      | ((with_reducible show Exists _); refine ⟨_, St.rd k (by rfl), ?_⟩)
      | ((with_reducible show Exists _); refine ⟨_, _, _, St.rd k (by rfl), ?_⟩)
      | ((with_reducible show storeL _ _ _ _ _); refine St.vall k (by rfl) (by rfl) fun _ k => ?_)
      | ((with_reducible show VStore _ _ _ _); refine St.vst k (Nat.le_of_ble_eq_true (by rfl)) fun _ k => ?_)
      | ((with_reducible show And _ _); refine ⟨St.rd k (by rfl), ?_⟩)
    refine .inr ⟨⟨true, 0#32, [], 12⟩, none, 0, 0, 0, ?_, rfl, fun h => absurd rfl h, k.drop.lnil⟩
    unfold readS
    rw [if_pos (by omega)]
  have hlt : 12 ≤ l := by
    have : ¬ (l : Int) < 12 := of_decide_eq_false hc
    omega
  clear hc
  have hrs : readS bs = if bs.take 4 ≠ magicB ∨ w32 bs 8 ≠ crc (bs.take 8) then none else (framesS (w32 bs 4) bs.length (bs.drop 12) [] 12).map fun x => ⟨false, w32 bs 4, x.1, x.2⟩ := by
    unfold readS
    rw [if_neg (by omega)]
  refine (hs.ro.in k).sl.one hl (by omega) (by omega) fun ad x0 e0 c0 => ⟨_, c0, ?_⟩
  rw [show (114 : Int) = ((114 : Nat) : Int) from rfl, ne8 x0 114 (by omega)]
  refine cond_split (fun hc => ?_) (fun hc => ?_)
  · have hne : x0 ≠ 114 := of_decide_eq_true hc
    repeat' first
      | ((with_reducible show VNew _ _ _); refine St.vnew k fun _ _ k => ?_)
      | ((with_reducible show VSome _ _); refine VSome.mk ?_)
      | ((with_reducible show Exists _); refine ⟨_, St.rd k (by rfl), ?_⟩)
      | ((with_reducible show Exists _); refine ⟨_, _, _, St.rd k (by rfl), ?_⟩)
      | ((with_reducible show storeL _ _ _ _ _); refine St.vall k (by rfl) (by rfl) fun _ k => ?_)
      | ((with_reducible show VStore _ _ _ _); refine St.vst k (Nat.le_of_ble_eq_true (by rfl)) fun _ k => ?_)
      | ((with_reducible show And _ _); refine ⟨St.rd k (by rfl), ?_⟩)
    exact .inl ⟨by rw [hrs, if_pos (.inl (magic_ne e0 (by decide) fun h => hne (Option.some.inj h)))], ⟨_, _, _, _, _, _, rfl⟩, k.ext⟩
  have m0 : x0 = 114 := by simpa using of_decide_eq_false hc
  clear hc
  refine (hs.ro.in k).sl.one hl (by omega) (by omega) fun ad x1 e1 c1 => ⟨_, c1, ?_⟩
  rw [show (108 : Int) = ((108 : Nat) : Int) from rfl, ne8 x1 108 (by omega)]
  refine cond_split (fun hc => ?_) (fun hc => ?_)
  · have hne : x1 ≠ 108 := of_decide_eq_true hc
    repeat' first
      | ((with_reducible show VNew _ _ _); refine St.vnew k fun _ _ k => ?_)
      | ((with_reducible show VSome _ _); refine VSome.mk ?_)
      | ((with_reducible show Exists _); refine ⟨_, St.rd k (by rfl), ?_⟩)
      | ((with_reducible show Exists _); refine ⟨_, _, _, St.rd k (by rfl), ?_⟩)
      | ((with_reducible show storeL _ _ _ _ _); refine St.vall k (by rfl) (by rfl) fun _ k => ?_)
      | ((with_reducible show VStore _ _ _ _); refine St.vst k (Nat.le_of_ble_eq_true (by rfl)) fun _ k => ?_)
      | ((with_reducible show And _ _); refine ⟨St.rd k (by rfl), ?_⟩)
    exact .inl ⟨by rw [hrs, if_pos (.inl (magic_ne e1 (by decide) fun h => hne (Option.some.inj h)))], ⟨_, _, _, _, _, _, rfl⟩, k.ext⟩
  have m1 : x1 = 108 := by simpa using of_decide_eq_false hc
  clear hc
  refine (hs.ro.in k).sl.one hl (by omega) (by omega) fun ad x2 e2 c2 => ⟨_, c2, ?_⟩
  rw [show (111 : Int) = ((111 : Nat) : Int) from rfl, ne8 x2 111 (by omega)]
  refine cond_split (fun hc => ?_) (fun hc => ?_)
  · have hne : x2 ≠ 111 := of_decide_eq_true hc
    repeat' first
      | ((with_reducible show VNew _ _ _); refine St.vnew k fun _ _ k => ?_)
      | ((with_reducible show VSome _ _); refine VSome.mk ?_)
      | ((with_reducible show Exists _); refine ⟨_, St.rd k (by rfl), ?_⟩)
      | ((with_reducible show Exists _); refine ⟨_, _, _, St.rd k (by rfl), ?_⟩)
      | ((with_reducible show storeL _ _ _ _ _); refine St.vall k (by rfl) (by rfl) fun _ k => ?_)
      | ((with_reducible show VStore _ _ _ _); refine St.vst k (Nat.le_of_ble_eq_true (by rfl)) fun _ k => ?_)
      | ((with_reducible show And _ _); refine ⟨St.rd k (by rfl), ?_⟩)
    exact .inl ⟨by rw [hrs, if_pos (.inl (magic_ne e2 (by decide) fun h => hne (Option.some.inj h)))], ⟨_, _, _, _, _, _, rfl⟩, k.ext⟩
  have m2 : x2 = 111 := by simpa using of_decide_eq_false hc
  clear hc
  refine (hs.ro.in k).sl.one hl (by omega) (by omega) fun ad x3 e3 c3 => ⟨_, c3, ?_⟩
  rw [show (103 : Int) = ((103 : Nat) : Int) from rfl, ne8 x3 103 (by omega)]
  refine cond_split (fun hc => ?_) (fun hc => ?_)
  · have hne : x3 ≠ 103 := of_decide_eq_true hc
    repeat' first
      | ((with_reducible show VNew _ _ _); refine St.vnew k fun _ _ k => ?_)
      | ((with_reducible show VSome _ _); refine VSome.mk ?_)
      | ((with_reducible show Exists _); refine ⟨_, St.rd k (by rfl), ?_⟩)
      | ((with_reducible show Exists _); refine ⟨_, _, _, St.rd k (by rfl), ?_⟩)
      | ((with_reducible show storeL _ _ _ _ _); refine St.vall k (by rfl) (by rfl) fun _ k => ?_)
      | ((with_reducible show VStore _ _ _ _); refine St.vst k (Nat.le_of_ble_eq_true (by rfl)) fun _ k => ?_)
      | ((with_reducible show And _ _); refine ⟨St.rd k (by rfl), ?_⟩)
    exact .inl ⟨by rw [hrs, if_pos (.inl (magic_ne e3 (by decide) fun h => hne (Option.some.inj h)))], ⟨_, _, _, _, _, _, rfl⟩, k.ext⟩
  have m3 : x3 = 103 := by simpa using of_decide_eq_false hc
  clear hc
  subst m0 m1 m2 m3
  have hmag : bs.take 4 = magicB := magic_eq e0 e1 e2 e3
  clear e0 e1 e2 e3 c0 c1 c2 c3
  refine (hs.ro.in k).bcut hl (lo := 0) (hi := 8) (mx := c) rfl rfl rfl (by omega) (by omega) (by omega) (Nat.le_refl _) fun a3 r3 hl3 => ?_
  refine CallsH.mono (of_at 8 (hs.ro.in k).sl hl (by omega) (by omega) rfl) ?_
  rintro _ _ ⟨rfl, rfl⟩
  refine ⟨_, rfl, CallsH.mono (rsum_spec r3.sl hl3 (by omega)) ?_⟩
  rintro _ _ ⟨rfl, rfl⟩
  refine ⟨_, rfl, ?_⟩
  rw [ne32, List.drop_zero]
  refine cond_split (fun hc => ?_) (fun hc => ?_)
  · have hne : w32 bs 8 ≠ crc (bs.take 8) := of_decide_eq_true hc
    repeat' first
      | ((with_reducible show VNew _ _ _); refine St.vnew k fun _ _ k => ?_)
      | ((with_reducible show VSome _ _); refine VSome.mk ?_)
      | ((with_reducible show Exists _); refine ⟨_, St.rd k (by rfl), ?_⟩)
      | ((with_reducible show Exists _); refine ⟨_, _, _, St.rd k (by rfl), ?_⟩)
      | ((with_reducible show storeL _ _ _ _ _); refine St.vall k (by rfl) (by rfl) fun _ k => ?_)
      | ((with_reducible show VStore _ _ _ _); refine St.vst k (Nat.le_of_ble_eq_true (by rfl)) fun _ k => ?_)
      | ((with_reducible show And _ _); refine ⟨St.rd k (by rfl), ?_⟩)
    exact .inl ⟨by rw [hrs, if_pos (.inr hne)], ⟨_, _, _, _, _, _, rfl⟩, k.ext⟩
  have hsum : w32 bs 8 = crc (bs.take 8) := by
    have := of_decide_eq_false hc
    simpa using this
  clear hc
  rw [if_neg (by simp [hmag, hsum])] at hrs
  refine CallsH.mono (of_at 4 (hs.ro.in k).sl hl (by omega) (by omega) rfl) ?_
  rintro _ _ ⟨rfl, rfl⟩
  refine ⟨_, rfl, k.vnew fun b3 h4 k => ?_⟩
  refine k.vall (by rfl) (by rfl) fun h5 k => ?_
  refine ⟨fun n hh => ∃ (ra : Option Addr) (rl rc fin f : Nat) (recs : List Bytes), fin ≤ l ∧ n = l - fin ∧ recs.length = rl ∧ recs.length ≤ fin ∧ (bs.drop fin).length ≤ f ∧ framesS (w32 bs 4) f (bs.drop fin) recs fin = framesS (w32 bs 4) bs.length (bs.drop 12) [] 12 ∧
    St none_ h hh [A.blk b3 #[.bool false, .bool false, u32V (w32 bs 4), .slice ra rl rc, .int .i64 fin] 103, A.blk b1 #[.bool false, .bool false, .int .u32 0, .slice none 0 0, .int .i64 0] 103, LV ra rl rc recs],
    ⟨_, none, 0, 0, 12, bs.length, [], hlt, rfl, rfl, Nat.zero_le _, by rw [List.length_drop]; omega, rfl, k.lnil.sel 3 [1, 2, 0] rfl (by decide) (by rfl)⟩, ?_⟩
  clear k r3 hl3
  rintro n hh _ ⟨ra, rl, rc, fin, f, recs, hfin, rfl, hrl, hrf, hf, hfr, k⟩
  refine ⟨_, k.rd (by rfl), ?_⟩
  have r5 := hs.ro.in k
  have hleft : (bs.drop fin).length = l - fin := by rw [List.length_drop]; omega
  have e12 : decide (IntKind.i64.wrap ((l : Int) - (fin : Int)) ≥ 12) = decide (12 ≤ l - fin) := by
    rw [wrap_id (by omega) (by omega)]
    by_cases hd : 12 ≤ l - fin
    · rw [decide_eq_true hd]; exact decide_eq_true (by omega)
    · rw [decide_eq_false hd]; exact decide_eq_false (by omega)
  rw [e12]
  refine cond_split (fun hc => ?_) (fun hc => ?_)
  rotate_left
  · have h12 : l - fin < 12 := by
      have : ¬ (12 ≤ l - fin) := of_decide_eq_false hc
      omega
    have hend : framesS (w32 bs 4) f (bs.drop fin) recs fin = some (recs, fin) := by
      cases f with
      | zero => rfl
      | succ f => unfold framesS; rw [if_pos (by omega)]
    repeat' first
      | ((with_reducible show VNew _ _ _); refine St.vnew k fun _ _ k => ?_)
      | ((with_reducible show VSome _ _); refine VSome.mk ?_)
      | ((with_reducible show Exists _); refine ⟨_, St.rd k (by rfl), ?_⟩)
      | ((with_reducible show Exists _); refine ⟨_, _, _, St.rd k (by rfl), ?_⟩)
      | ((with_reducible show storeL _ _ _ _ _); refine St.vall k (by rfl) (by rfl) fun _ k => ?_)
      | ((with_reducible show VStore _ _ _ _); refine St.vst k (Nat.le_of_ble_eq_true (by rfl)) fun _ k => ?_)
      | ((with_reducible show And _ _); refine ⟨St.rd k (by rfl), ?_⟩)
    refine .inr ⟨⟨false, w32 bs 4, recs, fin⟩, ra, rl, rc, fin, ?_, rfl, fun _ => rfl, k.drop.drop⟩
    rw [hrs, ← hfr, hend]; rfl
  have h12 : 12 ≤ l - fin := of_decide_eq_true hc
  clear hc e12
  obtain ⟨f, rfl⟩ : ∃ g, f = g + 1 := ⟨f - 1, by omega⟩
  rw [framesS, if_neg (by omega)] at hfr
  have d0 := w32_drop bs fin 0
  have d4 := w32_drop bs fin 4
  have d8 := w32_drop bs fin 8
  rw [Nat.add_zero] at d0
  rw [d0, d4, d8] at hfr
  have n0 := toNat32 (w32 bs fin)
  refine ⟨_, k.rd (by rfl), CallsH.mono (of_at fin r5.sl hl (by omega) (by omega) rfl) ?_⟩
  rintro _ _ ⟨rfl, rfl⟩
  refine ⟨_, rfl, _, k.rd (by rfl), CallsH.mono (of_at (fin + 4) r5.sl hl (by omega) (by omega) (by rw [wrap_id (by omega) (by omega)]; omega)) ?_⟩
  rintro _ _ ⟨rfl, rfl⟩
  refine ⟨_, rfl, ?_⟩
  generalize hn : w32 bs fin = n at *
  generalize hs4 : w32 bs (fin + 4) = s4 at *
  refine cond_split (fun hc => ?_) (fun hc => ?_)
  · have hgt : (n.toNat : Int) > 1048576 := of_decide_eq_true hc
    rw [if_pos (.inl (by omega))] at hfr
    repeat' first
      | ((with_reducible show VNew _ _ _); refine St.vnew k fun _ _ k => ?_)
      | ((with_reducible show VSome _ _); refine VSome.mk ?_)
      | ((with_reducible show Exists _); refine ⟨_, St.rd k (by rfl), ?_⟩)
      | ((with_reducible show Exists _); refine ⟨_, _, _, St.rd k (by rfl), ?_⟩)
      | ((with_reducible show storeL _ _ _ _ _); refine St.vall k (by rfl) (by rfl) fun _ k => ?_)
      | ((with_reducible show VStore _ _ _ _); refine St.vst k (Nat.le_of_ble_eq_true (by rfl)) fun _ k => ?_)
      | ((with_reducible show And _ _); refine ⟨St.rd k (by rfl), ?_⟩)
    exact .inl ⟨by rw [hrs, ← hfr]; rfl, ⟨_, _, _, _, _, _, rfl⟩, k.ext⟩
  have hn20 : n.toNat ≤ 1048576 := by
    have : ¬ (n.toNat : Int) > 1048576 := of_decide_eq_false hc
    omega
  clear hc
  refine ⟨_, k.rd (by rfl), _, k.rd (by rfl), _, _, _, k.rd (by rfl), CallsH.mono (of_at (fin + 8) r5.sl hl (by omega) (by omega) (by rw [wrap_id (by omega) (by omega)]; omega)) ?_⟩
  rintro _ _ ⟨rfl, rfl⟩
  have erl : Value.int .u32 (IntKind.u32.wrap (rl : Int)) = u32V (BitVec.ofNat 32 recs.length) := by
    unfold u32V
    rw [wrap_u32, hrl, BitVec.toNat_ofNat]; congr 1
  refine ⟨_, rfl, k.rd (by rfl), k.rd (by rfl), ?_⟩
  rw [erl]
  refine CallsH.mono (rthird_spec (w32 bs 4) (BitVec.ofNat 32 recs.length) n s4) ?_
  rintro _ h6 ⟨rfl, m6⟩
  have k := k.next m6
  have r5 := hs.ro.in k
  refine ⟨_, rfl, ?_⟩
  rw [ne32]
  refine cond_split (fun hc => ?_) (fun hc => ?_)
  · have hne : w32 bs (fin + 8) ≠ thirdB (w32 bs 4) (BitVec.ofNat 32 recs.length) n s4 := of_decide_eq_true hc
    rw [if_pos (.inr hne)] at hfr
    repeat' first
      | ((with_reducible show VNew _ _ _); refine St.vnew k fun _ _ k => ?_)
      | ((with_reducible show VSome _ _); refine VSome.mk ?_)
      | ((with_reducible show Exists _); refine ⟨_, St.rd k (by rfl), ?_⟩)
      | ((with_reducible show Exists _); refine ⟨_, _, _, St.rd k (by rfl), ?_⟩)
      | ((with_reducible show storeL _ _ _ _ _); refine St.vall k (by rfl) (by rfl) fun _ k => ?_)
      | ((with_reducible show VStore _ _ _ _); refine St.vst k (Nat.le_of_ble_eq_true (by rfl)) fun _ k => ?_)
      | ((with_reducible show And _ _); refine ⟨St.rd k (by rfl), ?_⟩)
    exact .inl ⟨by rw [hrs, ← hfr]; rfl, ⟨_, _, _, _, _, _, rfl⟩, k.ext⟩
  have h3 : w32 bs (fin + 8) = thirdB (w32 bs 4) (BitVec.ofNat 32 recs.length) n s4 := by
    have := of_decide_eq_false hc
    simpa using this
  rw [if_neg (by rw [h3]; simp; omega)] at hfr
  clear hc
  have w12 : IntKind.i64.wrap ((fin : Int) + 12) = ((fin + 12 : Nat) : Int) := by rw [wrap_id (by omega) (by omega)]; omega
  have wn : IntKind.i64.wrap (n.toNat : Int) = (n.toNat : Int) := wrap_id (by omega) (by omega)
  have wl : IntKind.i64.wrap ((l : Int) - ((fin + 12 : Nat) : Int)) = (l : Int) - ((fin + 12 : Nat) : Int) := wrap_id (by omega) (by omega)
  have wf : IntKind.i64.wrap (((fin + 12 : Nat) : Int) + (n.toNat : Int)) = ((fin + 12 + n.toNat : Nat) : Int) := by rw [wrap_id (by omega) (by omega)]; omega
  refine ⟨_, k.rd (by rfl), ?_⟩
  rw [w12, wn, wl, wf]
  have eu : decide ((l : Int) - ((fin + 12 : Nat) : Int) < (n.toNat : Int)) = decide (l - fin < 12 + n.toNat) := by
    by_cases hd : l - fin < 12 + n.toNat
    · rw [decide_eq_true hd]; exact decide_eq_true (by omega)
    · rw [decide_eq_false hd]; exact decide_eq_false (by omega)
  rw [eu]
  refine cond_split (fun hc => ?_) (fun hc => ?_)
  · have hlt2 : l - fin < 12 + n.toNat := of_decide_eq_true hc
    rw [if_pos (by omega)] at hfr
    repeat' first
      | ((with_reducible show VNew _ _ _); refine St.vnew k fun _ _ k => ?_)
      | ((with_reducible show VSome _ _); refine VSome.mk ?_)
      | ((with_reducible show Exists _); refine ⟨_, St.rd k (by rfl), ?_⟩)
      | ((with_reducible show Exists _); refine ⟨_, _, _, St.rd k (by rfl), ?_⟩)
      | ((with_reducible show storeL _ _ _ _ _); refine St.vall k (by rfl) (by rfl) fun _ k => ?_)
      | ((with_reducible show VStore _ _ _ _); refine St.vst k (Nat.le_of_ble_eq_true (by rfl)) fun _ k => ?_)
      | ((with_reducible show And _ _); refine ⟨St.rd k (by rfl), ?_⟩)
    refine .inr ⟨⟨false, w32 bs 4, recs, fin⟩, ra, rl, rc, fin, ?_, rfl, fun _ => rfl, k.drop.drop⟩
    rw [hrs, ← hfr]; rfl
  have hge2 : 12 + n.toNat ≤ l - fin := by
    have := of_decide_eq_false hc
    omega
  rw [if_neg (by omega)] at hfr
  clear hc
  refine r5.bcut hl (lo := fin + 12) (hi := fin + 12 + n.toNat) (mx := c) rfl rfl rfl (by omega) (by omega) (by omega) (Nat.le_refl _) fun a8 r8 hl8 => ?_
  have exb : (bs.take (fin + 12 + n.toNat)).drop (fin + 12) = ((bs.drop fin).drop 12).take n.toNat := by
    rw [List.drop_take, List.drop_drop]; congr 1; omega
  rw [exb] at r8 hl8
  generalize hX : ((bs.drop fin).drop 12).take n.toNat = X at *
  have hXl : X.length = n.toNat := by rw [hl8]; omega
  have en : fin + 12 + n.toNat - (fin + 12) = n.toNat := by omega
  rw [en]
  refine (k.vnil 5 (sz := 1) (by omega)).app T26 und26 (by simp) (Src.slice r8.sl (by rw [bytesV_len, hXl, Nat.mul_one])) (oneC_bytes _) (by omega) fun a9 c9 h7 k => ⟨_, _, _, rfl, ?_⟩
  refine CallsH.mono (rsum_spec (bs := X) (k.sl (a := a9)) (by omega) (by omega)) ?_
  rintro _ _ ⟨rfl, rfl⟩
  refine ⟨_, rfl, ?_⟩
  rw [ne32]
  refine cond_split (fun hc => ?_) (fun hc => ?_)
  · have hne : crc X ≠ s4 := of_decide_eq_true hc
    rw [if_pos hne] at hfr
    repeat' first
      | ((with_reducible show VNew _ _ _); refine St.vnew k fun _ _ k => ?_)
      | ((with_reducible show VSome _ _); refine VSome.mk ?_)
      | ((with_reducible show Exists _); refine ⟨_, St.rd k (by rfl), ?_⟩)
      | ((with_reducible show Exists _); refine ⟨_, _, _, St.rd k (by rfl), ?_⟩)
      | ((with_reducible show storeL _ _ _ _ _); refine St.vall k (by rfl) (by rfl) fun _ k => ?_)
      | ((with_reducible show VStore _ _ _ _); refine St.vst k (Nat.le_of_ble_eq_true (by rfl)) fun _ k => ?_)
      | ((with_reducible show And _ _); refine ⟨St.rd k (by rfl), ?_⟩)
    exact .inl ⟨by rw [hrs, ← hfr]; rfl, ⟨_, _, _, _, _, _, rfl⟩, k.ext⟩
  have h4 : crc X = s4 := by
    have := of_decide_eq_false hc
    simpa using this
  rw [if_neg (by rw [h4]; simp)] at hfr
  clear hc
  refine ⟨_, _, _, k.rd (by rfl), k.vnew fun b h8 k => ?_⟩
  refine LV.push (x := ⟨a9, 0 + n.toNat, c9, X⟩) k.pull4.pull2.pull2 (by omega) fun a10 c10 h9 k => ⟨_, _, _, rfl, ?_⟩
  refine k.vst (by simp) fun h10 k => ?_
  refine k.vst (by simp) fun h11 k => ?_
  refine ⟨_, ?_, a10, rl + 1, c10, fin + 12 + n.toNat, f, recs ++ [X], by omega, rfl, by rw [List.length_append]; simp only [List.length_singleton]; omega, by rw [List.length_append]; simp only [List.length_singleton]; omega, ?_, ?_, k.sel 3 [1, 2, 0] rfl (by decide) (by rfl)⟩
  · omega
  · rw [List.length_drop]; omega
  · rw [← hfr, List.drop_drop, Nat.add_assoc]
end Go.Proofs.YtbaglaoefaoaoaaDoor.F
