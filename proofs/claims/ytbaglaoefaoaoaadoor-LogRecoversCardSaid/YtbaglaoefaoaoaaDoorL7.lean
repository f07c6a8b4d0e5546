/- Package log: reading a segment. Conditions: none. -/
import Derived.Test.YtbaglaoefaoaoaaDoorP3
import Derived.Laws.Strings
namespace Go.Proofs.YtbaglaoefaoaoaaDoor.F
open Go Go.VC Go.Proofs
set_option linter.unusedSimpArgs false
set_option linter.unusedVariables false
set_option maxRecDepth 100000
attribute [local irreducible] CallsH RunsTo PureTo

variable {S F G : Nat → Prop} {h0 h h1 : Heap} {L R L' : List A} {a : Option Addr} {l c : Nat} {bs : List UInt8}
theorem number_at (hs : Sl h a (bytesV bs)) (hl : bs.length = l) (h4 : 4 ≤ l) (hb : l < 9223372036854775808) : CallsH Tryd.prog 55 #[.slice a l c] h (fun v h' => v = u32V (w32 bs 0) ∧ h' = h) := by
  have e := drop_four (b := bs) (i := 0) (by omega)
  rw [List.drop_zero] at e
  have hlen : (bs.drop 4).length + 4 = l := by rw [List.length_drop]; omega
  refine number_spec (r := bs.drop 4) ?_ hlen hb
  have e2 : bytesV bs = bytesV (bs.getD 0 0 :: bs.getD 1 0 :: bs.getD 2 0 :: bs.getD 3 0 :: bs.drop 4) := congrArg bytesV e
  rw [← e2]; exact hs
theorem bytesV_cut (bs : List UInt8) (lo hi : Nat) : ((bytesV bs).take (hi * 1)).drop (lo * 1) = bytesV ((bs.take hi).drop lo) := by
  simp [bytesV, List.map_take, List.map_drop]
theorem cut_len {bs : List UInt8} {lo hi : Nat} (h : hi ≤ bs.length) : ((bs.take hi).drop lo).length = hi - lo := by
  rw [List.length_drop, List.length_take]; omega
/-- A part of some bytes. -/
theorem _root_.Go.VC.Ro.bcut {F : Nat → Prop} (k : Ro F h a (bytesV bs)) (hl : bs.length = l) {lo hi mx : Nat} {x y z : Int} (hx : x = lo) (hy : y = hi) (hz : z = mx) (h1 : lo ≤ hi) (h2 : hi ≤ l) (h3 : hi ≤ mx) (h4 : mx ≤ c) {K : Option Addr → Nat → Nat → Prop}
    (q : ∀ a', Ro F h a' (bytesV ((bs.take hi).drop lo)) → ((bs.take hi).drop lo).length = hi - lo → K a' (hi - lo) (mx - lo)) : VSlice 1 a c x y z K :=
  k.cut (by rw [bytesV_len, hl, Nat.mul_one]) hx hy hz h1 h2 h3 h4 fun a' r hlen => q a' (by rw [← bytesV_cut]; exact r) (cut_len (by omega))
theorem toNat32 (x : BitVec 32) : x.toNat < 4294967296 := x.isLt
theorem ne32 (x y : BitVec 32) : ((x.toNat : Int) != (y.toNat : Int)) = decide (x ≠ y) := by
  by_cases h : x = y
  · subst h; simp
  · have : (x.toNat : Int) ≠ (y.toNat : Int) := fun e => h (BitVec.eq_of_toNat_eq (by omega))
    simp [h, this]
theorem eqStr (bs : List UInt8) (m : List UInt8) : strEq ⟨bs.toArray⟩ ⟨m.toArray⟩ = decide (bs = m) := by
  have e : ∀ l : List UInt8, (ByteArray.mk l.toArray).toList = l := by
    intro l
    rw [ByteArray.toList_eq]
  unfold strEq
  rw [e, e]
  by_cases h : bs = m <;> simp [h]
theorem read_spec (hT : Tab none_ h) (hs : Sl h a (bytesV bs)) (hl : bs.length = l) (hlc : l ≤ c) (hb : l ≤ 1099511627776) :
    CallsH Tryd.prog 38 #[.slice a l c] h (fun v h' => (readS bs = none ∧ (∃ b x a2 l2 c2 e, v = .tuple #[.agg #[.bool b, .int .u32 x, .slice a2 l2 c2, .int .i64 e], .bool false]) ∧ Ext h h') ∨
      (∃ r a2 l2 c2, readS bs = some r ∧ v = .tuple #[.agg #[.bool r.short, u32V r.num, .slice a2 l2 c2, .int .i64 r.fin], .bool true] ∧ St none_ h h' [LV a2 l2 c2 r.recs])) := by
  refine vf38 _ _ _ h _ ?_
  unfold F38
  have k := St.fresh h
  refine k.vnew fun b1 h1 k => k.vnew fun b3 h2 k => ?_
  refine k.vall (by rfl) (by rfl) fun h3 k => ?_
  refine cond_split (fun hc => ?_) (fun hc => ?_)
  · have hlt : l < 12 := by
      have : (l : Int) < 12 := of_decide_eq_true hc
      omega
    repeat' first
      | ((with_reducible show VNew _ _ _); refine St.vnew k fun _ _ k => ?_)
      | ((with_reducible show VSome _ _); refine VSome.mk ?_)
      | ((with_reducible show Exists _); refine ⟨_, St.rd k (by rfl), ?_⟩)
      | ((with_reducible show Exists _); refine ⟨_, _, _, St.rd k (by rfl), ?_⟩)
      | ((with_reducible show storeL _ _ _ _ _); refine St.vall k (by rfl) (by rfl) fun _ k => ?_)
      | ((with_reducible show VStore _ _ _ _); refine St.vst k (Nat.le_of_ble_eq_true (by rfl)) fun _ k => ?_)
      | ((with_reducible show And _ _); refine ⟨St.rd k (by rfl), ?_⟩)
    refine .inr ⟨⟨true, 0#32, [], 12⟩, none, 0, 0, ?_, rfl, (k.drop.drop).lnil⟩
    unfold readS
    rw [if_pos (by omega)]
  have hlt : 12 ≤ l := by
    have : ¬ (l : Int) < 12 := of_decide_eq_false hc
    omega
  clear hc
  refine (hs.ro.in k).bcut hl (lo := 0) (hi := 4) (mx := c) rfl rfl rfl (by omega) (by omega) (by omega) (Nat.le_refl _) fun a1 r1 hl1 => ?_
  refine bytes_text und26 und5 und9 r1.sl hl1 ⟨_, rfl, ?_⟩
  have em : strEq ⟨((bs.take 4).drop 0).toArray⟩ (ByteArray.mk #[114, 108, 111, 103]) = decide (bs.take 4 = magicB) := eqStr (bs.take 4) magicB
  rw [em]
  have hrs : readS bs = if bs.take 4 ≠ magicB ∨ w32 bs 8 ≠ crc (bs.take 8) then none else (framesS (w32 bs 4) bs.length (bs.drop 12) [] 12).map fun x => ⟨false, w32 bs 4, x.1, x.2⟩ := by
    unfold readS
    rw [if_neg (by omega)]
  refine cond_split (fun hc => ?_) (fun hc => ?_)
  · have hne : bs.take 4 ≠ magicB := by simpa using hc
    repeat' first
      | ((with_reducible show VNew _ _ _); refine St.vnew k fun _ _ k => ?_)
      | ((with_reducible show VSome _ _); refine VSome.mk ?_)
      | ((with_reducible show Exists _); refine ⟨_, St.rd k (by rfl), ?_⟩)
      | ((with_reducible show Exists _); refine ⟨_, _, _, St.rd k (by rfl), ?_⟩)
      | ((with_reducible show storeL _ _ _ _ _); refine St.vall k (by rfl) (by rfl) fun _ k => ?_)
      | ((with_reducible show VStore _ _ _ _); refine St.vst k (Nat.le_of_ble_eq_true (by rfl)) fun _ k => ?_)
      | ((with_reducible show And _ _); refine ⟨St.rd k (by rfl), ?_⟩)
    exact .inl ⟨by rw [hrs, if_pos (.inl hne)], ⟨_, _, _, _, _, _, rfl⟩, k.ext⟩
  have hmag : bs.take 4 = magicB := by simpa using hc
  clear hc
  refine (hs.ro.in k).bcut hl (lo := 8) (hi := l) (mx := c) rfl rfl rfl (by omega) (by omega) (by omega) (Nat.le_refl _) fun a2 r2 hl2 => ?_
  refine (hs.ro.in k).bcut hl (lo := 0) (hi := 8) (mx := c) rfl rfl rfl (by omega) (by omega) (by omega) (Nat.le_refl _) fun a3 r3 hl3 => ?_
  refine CallsH.mono (number_at r2.sl hl2 (by omega) (by omega)) ?_
  rintro _ _ ⟨rfl, rfl⟩
  refine ⟨_, rfl, CallsH.mono (sum_spec (hT.in k) r3.sl hl3 (by omega)) ?_⟩
  rintro _ _ ⟨rfl, rfl⟩
  refine ⟨_, rfl, ?_⟩
  rw [ne32, w32_cut 0 (by omega), List.drop_zero]
  refine cond_split (fun hc => ?_) (fun hc => ?_)
  · have hne : w32 bs 8 ≠ crc (bs.take 8) := of_decide_eq_true hc
    repeat' first
      | ((with_reducible show VNew _ _ _); refine St.vnew k fun _ _ k => ?_)
      | ((with_reducible show VSome _ _); refine VSome.mk ?_)
      | ((with_reducible show Exists _); refine ⟨_, St.rd k (by rfl), ?_⟩)
      | ((with_reducible show Exists _); refine ⟨_, _, _, St.rd k (by rfl), ?_⟩)
      | ((with_reducible show storeL _ _ _ _ _); refine St.vall k (by rfl) (by rfl) fun _ k => ?_)
      | ((with_reducible show VStore _ _ _ _); refine St.vst k (Nat.le_of_ble_eq_true (by rfl)) fun _ k => ?_)
      | ((with_reducible show And _ _); refine ⟨St.rd k (by rfl), ?_⟩)
    exact .inl ⟨by rw [hrs, if_pos (.inr hne)], ⟨_, _, _, _, _, _, rfl⟩, k.ext⟩
  have hsum : w32 bs 8 = crc (bs.take 8) := by
    have := of_decide_eq_false hc
    simpa using this
  clear hc
  rw [if_neg (by simp [hmag, hsum])] at hrs
  refine (hs.ro.in k).bcut hl (lo := 4) (hi := l) (mx := c) rfl rfl rfl (by omega) (by omega) (by omega) (Nat.le_refl _) fun a4 r4 hl4 => ?_
  refine CallsH.mono (number_at r4.sl hl4 (by omega) (by omega)) ?_
  rintro _ _ ⟨rfl, rfl⟩
  refine ⟨_, rfl, ?_⟩
  rw [w32_cut 0 (by omega)]
  refine k.vst (by simp) fun h4 k => ?_
  refine ⟨fun n hh _ => ∃ (ra : Option Addr) (rl rc fin f : Nat) (recs : List Bytes), fin ≤ l ∧ n = l - fin ∧ recs.length = rl ∧ recs.length ≤ fin ∧ (bs.drop fin).length ≤ f ∧ framesS (w32 bs 4) f (bs.drop fin) recs fin = framesS (w32 bs 4) bs.length (bs.drop 12) [] 12 ∧
    St none_ h hh [A.blk b3 #[.bool false, u32V (w32 bs 4), .slice ra rl rc, .int .i64 fin] 88, A.blk b1 #[.bool false, .int .u32 0, .slice none 0 0, .int .i64 0] 88, LV ra rl rc recs],
    ⟨_, none, 0, 0, 12, bs.length, [], hlt, rfl, rfl, Nat.zero_le _, by rw [List.length_drop]; omega, rfl, k.lnil.sel 3 [1, 2, 0] rfl (by decide) (by rfl)⟩, ?_⟩
  clear k r1 r2 r3 r4 hl1 hl2 hl3 hl4
  rintro n hh _ _ ⟨ra, rl, rc, fin, f, recs, hfin, rfl, hrl, hrf, hf, hfr, k⟩
  refine ⟨_, k.rd (by rfl), ?_⟩
  refine (hs.ro.in k).bcut hl (lo := fin) (hi := l) (mx := c) rfl rfl rfl (by omega) (by omega) (by omega) (Nat.le_refl _) fun a5 r5 hl5 => ?_
  rw [List.take_of_length_le (by omega)] at r5 hl5
  have hleft : (bs.drop fin).length = l - fin := hl5
  generalize hL : bs.drop fin = left at *
  refine cond_split (fun hc => ?_) (fun hc => ?_)
  · have h12 : l - fin < 12 := by
      have : ((l - fin : Nat) : Int) < 12 := of_decide_eq_true hc
      omega
    have hend : framesS (w32 bs 4) f left recs fin = some (recs, fin) := by
      cases f with
      | zero => rfl
      | succ f => unfold framesS; rw [if_pos (by omega)]
    repeat' first
      | ((with_reducible show VNew _ _ _); refine St.vnew k fun _ _ k => ?_)
      | ((with_reducible show VSome _ _); refine VSome.mk ?_)
      | ((with_reducible show Exists _); refine ⟨_, St.rd k (by rfl), ?_⟩)
      | ((with_reducible show Exists _); refine ⟨_, _, _, St.rd k (by rfl), ?_⟩)
      | ((with_reducible show storeL _ _ _ _ _); refine St.vall k (by rfl) (by rfl) fun _ k => ?_)
      | ((with_reducible show VStore _ _ _ _); refine St.vst k (Nat.le_of_ble_eq_true (by rfl)) fun _ k => ?_)
      | ((with_reducible show And _ _); refine ⟨St.rd k (by rfl), ?_⟩)
    refine .inr ⟨⟨false, w32 bs 4, recs, fin⟩, ra, rl, rc, ?_, rfl, k.drop.drop⟩
    rw [hrs, ← hfr, hend]; rfl
  have h12 : 12 ≤ l - fin := by
    have : ¬ ((l - fin : Nat) : Int) < 12 := of_decide_eq_false hc
    omega
  clear hc
  obtain ⟨f, rfl⟩ : ∃ g, f = g + 1 := ⟨f - 1, by omega⟩
  rw [framesS, if_neg (by omega)] at hfr
  have n0 := toNat32 (w32 left 0)
  refine r5.bcut hl5 (lo := 4) (hi := l - fin) (mx := c - fin) rfl rfl rfl (by omega) (by omega) (by omega) (Nat.le_refl _) fun a6 r6 hl6 => ?_
  refine CallsH.mono (number_at r5.sl hl5 (by omega) (by omega)) ?_
  rintro _ _ ⟨rfl, rfl⟩
  refine ⟨_, rfl, CallsH.mono (number_at r6.sl hl6 (by omega) (by omega)) ?_⟩
  rintro _ _ ⟨rfl, rfl⟩
  refine ⟨_, rfl, ?_⟩
  rw [w32_cut 0 (by omega)]
  generalize hn : w32 left 0 = n at *
  refine cond_split (fun hc => ?_) (fun hc => ?_)
  · have hgt : (n.toNat : Int) > 1048576 := of_decide_eq_true hc
    rw [if_pos (.inl (by omega))] at hfr
    repeat' first
      | ((with_reducible show VNew _ _ _); refine St.vnew k fun _ _ k => ?_)
      | ((with_reducible show VSome _ _); refine VSome.mk ?_)
      | ((with_reducible show Exists _); refine ⟨_, St.rd k (by rfl), ?_⟩)
      | ((with_reducible show Exists _); refine ⟨_, _, _, St.rd k (by rfl), ?_⟩)
      | ((with_reducible show storeL _ _ _ _ _); refine St.vall k (by rfl) (by rfl) fun _ k => ?_)
      | ((with_reducible show VStore _ _ _ _); refine St.vst k (Nat.le_of_ble_eq_true (by rfl)) fun _ k => ?_)
      | ((with_reducible show And _ _); refine ⟨St.rd k (by rfl), ?_⟩)
    exact .inl ⟨by rw [hrs, ← hfr]; rfl, ⟨_, _, _, _, _, _, rfl⟩, k.ext⟩
  have hn20 : n.toNat ≤ 1048576 := by
    have : ¬ (n.toNat : Int) > 1048576 := of_decide_eq_false hc
    omega
  clear hc
  refine r5.bcut hl5 (lo := 8) (hi := l - fin) (mx := c - fin) rfl rfl rfl (by omega) (by omega) (by omega) (Nat.le_refl _) fun a7 r7 hl7 => ?_
  refine ⟨_, k.rd (by rfl), _, _, _, k.rd (by rfl), CallsH.mono (number_at r7.sl hl7 (by omega) (by omega)) ?_⟩
  rintro _ _ ⟨rfl, rfl⟩
  have erl : Value.int .u32 (IntKind.u32.wrap (rl : Int)) = u32V (BitVec.ofNat 32 recs.length) := by
    unfold u32V
    rw [wrap_u32, hrl, BitVec.toNat_ofNat]; congr 1
  refine ⟨_, rfl, k.rd (by rfl), k.rd (by rfl), ?_⟩
  rw [erl]
  refine CallsH.mono (third_spec (w32 bs 4) (BitVec.ofNat 32 recs.length) n (w32 left 4) (hT.in k)) ?_
  rintro _ h6 ⟨rfl, m6⟩
  have k := k.next m6
  refine ⟨_, rfl, ?_⟩
  rw [ne32, w32_cut 0 (by omega)]
  refine cond_split (fun hc => ?_) (fun hc => ?_)
  · have hne : w32 left 8 ≠ thirdB (w32 bs 4) (BitVec.ofNat 32 recs.length) n (w32 left 4) := of_decide_eq_true hc
    rw [if_pos (.inr hne)] at hfr
    repeat' first
      | ((with_reducible show VNew _ _ _); refine St.vnew k fun _ _ k => ?_)
      | ((with_reducible show VSome _ _); refine VSome.mk ?_)
      | ((with_reducible show Exists _); refine ⟨_, St.rd k (by rfl), ?_⟩)
      | ((with_reducible show Exists _); refine ⟨_, _, _, St.rd k (by rfl), ?_⟩)
      | ((with_reducible show storeL _ _ _ _ _); refine St.vall k (by rfl) (by rfl) fun _ k => ?_)
      | ((with_reducible show VStore _ _ _ _); refine St.vst k (Nat.le_of_ble_eq_true (by rfl)) fun _ k => ?_)
      | ((with_reducible show And _ _); refine ⟨St.rd k (by rfl), ?_⟩)
    exact .inl ⟨by rw [hrs, ← hfr]; rfl, ⟨_, _, _, _, _, _, rfl⟩, k.ext⟩
  have h3 : w32 left 8 = thirdB (w32 bs 4) (BitVec.ofNat 32 recs.length) n (w32 left 4) := by
    have := of_decide_eq_false hc
    simpa using this
  rw [if_neg (by rw [h3]; simp; omega)] at hfr
  clear hc
  have eu : decide (IntKind.u64.wrap ((l - fin : Nat) : Int) < IntKind.u64.wrap (12 + IntKind.u64.wrap (n.toNat : Int))) = decide (l - fin < 12 + n.toNat) := by
    simp only [wrap_u64]
    by_cases hd : l - fin < 12 + n.toNat
    · rw [decide_eq_true hd]; exact decide_eq_true (by omega)
    · rw [decide_eq_false hd]; exact decide_eq_false (by omega)
  rw [eu]
  refine cond_split (fun hc => ?_) (fun hc => ?_)
  · have hlt2 : l - fin < 12 + n.toNat := of_decide_eq_true hc
    rw [if_pos (by omega)] at hfr
    repeat' first
      | ((with_reducible show VNew _ _ _); refine St.vnew k fun _ _ k => ?_)
      | ((with_reducible show VSome _ _); refine VSome.mk ?_)
      | ((with_reducible show Exists _); refine ⟨_, St.rd k (by rfl), ?_⟩)
      | ((with_reducible show Exists _); refine ⟨_, _, _, St.rd k (by rfl), ?_⟩)
      | ((with_reducible show storeL _ _ _ _ _); refine St.vall k (by rfl) (by rfl) fun _ k => ?_)
      | ((with_reducible show VStore _ _ _ _); refine St.vst k (Nat.le_of_ble_eq_true (by rfl)) fun _ k => ?_)
      | ((with_reducible show And _ _); refine ⟨St.rd k (by rfl), ?_⟩)
    refine .inr ⟨⟨false, w32 bs 4, recs, fin⟩, ra, rl, rc, ?_, rfl, k.drop.drop⟩
    rw [hrs, ← hfr]; rfl
  have hge2 : 12 + n.toNat ≤ l - fin := by
    have := of_decide_eq_false hc
    omega
  rw [if_neg (by omega)] at hfr
  clear hc
  have ew : IntKind.u32.wrap (12 + (n.toNat : Int)) = ((12 + n.toNat : Nat) : Int) := by rw [wrap_u32]; omega
  rw [ew]
  have r5' : Ro none_ h6 a5 (bytesV left) := r5.at m6 fun _ h => h.elim
  refine r5'.bcut hl5 (lo := 12) (hi := 12 + n.toNat) (mx := c - fin) rfl rfl rfl (by omega) (by omega) (by omega) (Nat.le_refl _) fun a8 r8 hl8 => ?_
  have exb : (left.take (12 + n.toNat)).drop 12 = (left.drop 12).take n.toNat := by
    rw [List.drop_take]; congr 1; omega
  rw [exb] at r8 hl8
  refine CallsH.mono (clone_spec r8.sl hl8 (by omega)) ?_
  rintro _ h7 ⟨a9, c9, rfl, k9⟩
  have k := k.add1 k9
  refine ⟨_, _, _, rfl, CallsH.mono (sum_spec (hT.in k) (k.sl (a := a9)) hl8 (by omega)) ?_⟩
  rintro _ _ ⟨rfl, rfl⟩
  refine ⟨_, rfl, ?_⟩
  rw [ne32]
  refine cond_split (fun hc => ?_) (fun hc => ?_)
  · have hne : crc ((left.drop 12).take n.toNat) ≠ w32 left 4 := of_decide_eq_true hc
    rw [if_pos hne] at hfr
    repeat' first
      | ((with_reducible show VNew _ _ _); refine St.vnew k fun _ _ k => ?_)
      | ((with_reducible show VSome _ _); refine VSome.mk ?_)
      | ((with_reducible show Exists _); refine ⟨_, St.rd k (by rfl), ?_⟩)
      | ((with_reducible show Exists _); refine ⟨_, _, _, St.rd k (by rfl), ?_⟩)
      | ((with_reducible show storeL _ _ _ _ _); refine St.vall k (by rfl) (by rfl) fun _ k => ?_)
      | ((with_reducible show VStore _ _ _ _); refine St.vst k (Nat.le_of_ble_eq_true (by rfl)) fun _ k => ?_)
      | ((with_reducible show And _ _); refine ⟨St.rd k (by rfl), ?_⟩)
    exact .inl ⟨by rw [hrs, ← hfr]; rfl, ⟨_, _, _, _, _, _, rfl⟩, k.ext⟩
  have h4 : crc ((left.drop 12).take n.toNat) = w32 left 4 := by
    have := of_decide_eq_false hc
    simpa using this
  rw [if_neg (by rw [h4]; simp)] at hfr
  clear hc
  refine ⟨_, _, _, k.rd (by rfl), k.vnew fun b h8 k => ?_⟩
  refine LV.push (x := ⟨a9, 12 + n.toNat - 12, c9, (left.drop 12).take n.toNat⟩) k.pull4.pull2.pull2 (by omega) fun a10 c10 h9 k => ⟨_, _, _, rfl, ?_⟩
  refine k.vst (by simp) fun h10 k => ⟨_, k.rd (by rfl), ?_⟩
  refine k.vst (by simp) fun h11 k => ?_
  have efin : IntKind.i64.wrap ((fin : Int) + IntKind.i64.wrap (12 + IntKind.i64.wrap (n.toNat : Int))) = ((fin + (12 + n.toNat) : Nat) : Int) := by
    rw [wrap_id (n := (n.toNat : Int)) (by omega) (by omega), wrap_id (n := 12 + (n.toNat : Int)) (by omega) (by omega), wrap_id (by omega) (by omega)]; omega
  rw [efin] at k
  refine ⟨_, ?_, a10, rl + 1, c10, fin + (12 + n.toNat), f, recs ++ [(left.drop 12).take n.toNat], by omega, rfl, by rw [List.length_append]; simp only [List.length_singleton]; omega, by rw [List.length_append]; simp only [List.length_singleton]; omega, ?_, ?_, k.sel 3 [1, 2, 0] rfl (by decide) (by rfl)⟩
  · omega
  · rw [List.length_drop]; omega
  · rw [← hfr, ← hL, List.drop_drop, List.drop_drop]
end Go.Proofs.YtbaglaoefaoaoaaDoor.F
