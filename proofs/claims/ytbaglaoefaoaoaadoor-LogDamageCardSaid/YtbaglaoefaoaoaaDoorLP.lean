/- The laws of the log: a synced log's one segment; a segment that is refused. Conditions: none. -/
import Derived.Test.YtbaglaoefaoaoaaDoorLI
import Derived.Test.YtbaglaoefaoaoaaDoorP6
namespace Go.Proofs.YtbaglaoefaoaoaaDoor.F
open Go Go.VC Go.Proofs
set_option linter.unusedSimpArgs false
set_option linter.unusedVariables false
set_option maxRecDepth 100000
attribute [local irreducible] CallsH RunsTo PureTo

variable {S F G : Nat → Prop} {h0 h h1 : Heap} {L R L' : List A} {a b0 la wa : Option Addr} {l c l2 c2 p b cl cw : Nat} {bs cs : List UInt8} {bss css rs : List Bytes} {s : LogS} {num : BitVec 32}
/-- A log whose last segment holds these records. -/
def OneS (s : LogS) (num : BitVec 32) (rs : List Bytes) : Prop := ∃ pre : List Bytes, s.full = pre ++ [segB num rs] ∧ s.cur = pre.length ∧ s.num = num ∧ s.frames = BitVec.ofNat 32 rs.length ∧ s.fin = (segB num rs).length
theorem full_put {s s' : LogS} {w : Wr} (h1 : s'.segs = s.segs) (h2 : s'.ws = s.ws ++ [w]) : s'.full = putD s.full w w.2.2.length := by unfold LogS.full; rw [h1, h2, full_snoc]; rfl
theorem OneS.first (r : Bytes) : OneS (addS (open0 []).s r) 0#32 [r] := by
  have e : segB 0#32 [r] = headB 0#32 ++ frameB 0#32 0#32 r := by
    unfold segB
    show _ ++ (frameB _ _ _ ++ []) = _
    rw [List.append_nil]
  refine ⟨[], ?_, rfl, rfl, rfl, ?_⟩
  · obtain ⟨h1, h2⟩ := add_ws (open0 []).s r
    rw [full_put h1 h2, e]
    show putD [] (0, 0, headB 0#32 ++ frameB 0#32 0#32 r) (headB 0#32 ++ frameB 0#32 0#32 r).length = _
    unfold putD getS
    rw [if_neg (by rw [first_len]; omega), List.take_length]; rfl
  · rw [e]
    show 0 + _ = _
    rw [Nat.zero_add]
theorem OneS.add (k : OneS s num rs) (hl : rs.length < 4294967295) (r : Bytes) : OneS (addS s r) num (rs ++ [r]) := by
  obtain ⟨pre, h1, h2, h3, h4, h5⟩ := k
  have hc : ¬ s.cur < 0 := by omega
  obtain ⟨e1, e2⟩ := add_ws s r
  have ea : addS s r = putS s s.cur.toNat s.fin (frameB s.num s.frames r) s.num (s.frames + 1#32) := by unfold addS; rw [if_neg hc]
  have ew : addW s r = (s.cur.toNat, s.fin, frameB s.num s.frames r) := by unfold addW; rw [if_neg hc]
  refine ⟨pre, ?_, ?_, ?_, ?_, ?_⟩
  · rw [full_put e1 e2, ew]
    unfold putD getS
    rw [if_neg (by show (frameB s.num s.frames r).length ≠ 0; rw [frameB_len]; omega)]
    show s.full.take s.cur.toNat ++ [(s.full.getD s.cur.toNat []).take s.fin ++ (frameB s.num s.frames r).take (frameB s.num s.frames r).length] = _
    rw [List.take_length, h1, h2, Int.toNat_natCast, List.take_left, List.getD_eq_getElem?_getD, List.getElem?_append_right (Nat.le_refl _), Nat.sub_self, h5]
    show pre ++ [(segB num rs).take (segB num rs).length ++ _] = _
    rw [List.take_length, segB_snoc, h3, h4]
  · rw [ea]
    show ((s.cur.toNat : Nat) : Int) = _
    omega
  · rw [ea]; exact h3
  · rw [ea]
    show s.frames + 1#32 = _
    rw [h4, List.length_append, List.length_singleton]
    apply BitVec.eq_of_toNat_eq
    simp only [BitVec.toNat_add, BitVec.toNat_ofNat]
    omega
  · rw [ea]
    show s.fin + (frameB s.num s.frames r).length = _
    rw [segB_snoc, List.length_append, h5, frameB_len, frameB_len]
theorem OneS.roll (k : OneS s num rs) (r : Bytes) : OneS (rollS s r) (num + 1#32) [r] := by
  obtain ⟨pre, h1, h2, h3, h4, h5⟩ := k
  have hc : ¬ s.cur < 0 := by omega
  have e : segB (num + 1#32) [r] = headB (num + 1#32) ++ frameB (num + 1#32) 0#32 r := by
    unfold segB
    show _ ++ (frameB _ _ _ ++ []) = _
    rw [List.append_nil]
  obtain ⟨e1, e2⟩ := roll_ws s r
  have ea : rollS s r = beginS s (s.cur.toNat + 1) (s.num + 1#32) r := by unfold rollS; rw [if_neg hc]
  have ew : rollW s r = (s.cur.toNat + 1, 0, headB (s.num + 1#32) ++ frameB (s.num + 1#32) 0#32 r) := by unfold rollW; rw [if_neg hc]
  refine ⟨pre ++ [segB num rs], ?_, ?_, ?_, ?_, ?_⟩
  · rw [full_put e1 e2, ew]
    unfold putD getS
    rw [if_neg (by show (headB (s.num + 1#32) ++ frameB (s.num + 1#32) 0#32 r).length ≠ 0; rw [first_len]; omega)]
    show s.full.take (s.cur.toNat + 1) ++ [(s.full.getD (s.cur.toNat + 1) []).take 0 ++ (headB (s.num + 1#32) ++ frameB (s.num + 1#32) 0#32 r).take (headB (s.num + 1#32) ++ frameB (s.num + 1#32) 0#32 r).length] = _
    rw [List.take_length, h1, h2, Int.toNat_natCast, List.take_of_length_le (by simp), List.take_zero, List.nil_append, e, h3]
  · rw [ea]
    show (((s.cur.toNat + 1 : Nat)) : Int) = _
    simp; omega
  · rw [ea]
    show s.num + 1#32 = _
    rw [h3]
  · rw [ea]; rfl
  · rw [ea, e]
    show 0 + (headB (s.num + 1#32) ++ frameB (s.num + 1#32) 0#32 r).length = _
    rw [Nat.zero_add, h3]
theorem OneS.sync (k : OneS s num rs) : downS (syncS s).segs (syncS s).ws (0 : Int).toNat = [segB num rs] := by
  obtain ⟨pre, h1, h2, h3, h4, h5⟩ := k
  rw [sync_ws]
  show (syncS s).segs = _
  unfold syncS
  split
  · show s.full.drop s.cur.toNat = _
    rw [h1, h2, Int.toNat_natCast, List.drop_left]
  · show s.full = _
    have : pre = [] := List.eq_nil_of_length_eq_zero (by omega)
    rw [h1, this]; rfl
theorem refused_spec (hT : Tab none_ h) (hs : Sl h a (bytesV bs)) (hl : bs.length = l) (hlc : l ≤ c) (hb : l ≤ 1073741824) (hn : readS bs = none) : CallsH Tryd.prog 19 #[.slice a l c] h (fun v h' => v = .bool true ∧ Ext h h') := by
  refine vf19 _ _ _ h _ ?_
  unfold F19
  have k := St.fresh h
  refine k.vnew fun b1 h2 k => ?_
  have hro : RoL none_ h2 (some ⟨b1, 0, none⟩) 1 [bs] := ⟨[⟨a, l, c, bs⟩], (k.slB (b := b1) : Sl h2 _ [.slice a l c]).ro, by
    intro x hx
    simp only [List.mem_singleton] at hx
    subst hx
    exact ⟨hs.ro.in k, hl, hlc⟩, rfl, rfl⟩
  refine CallsH.mono (open_spec (hT.in k) hro (by simp [tot]; omega)) ?_
  rintro _ h4 (⟨_, rfl, m⟩ | ⟨st, p, ra, rl, rc, hS, _⟩)
  · exact ⟨_, _, _, _, _, rfl, cond_true rfl (cond_true rfl ⟨rfl, (k.next m).ext⟩)⟩
  · rw [open_bad hn] at hS; cases hS
theorem synced_spec {rolled : Bool} (hT : Tab none_ h) (hr : RoL none_ h a l rs) (hne : rs ≠ []) (h12 : rs.length ≤ 12) (h300 : ∀ r ∈ rs, r.length ≤ 300) :
    CallsH Tryd.prog 18 #[.slice a l c, .bool rolled] h (fun v h' => ∃ num a' l' c', v = .tuple #[.slice a' l' c', .bool true] ∧ Ext h h' ∧ Sl h' a' (bytesV (segB num rs)) ∧ (segB num rs).length = l' ∧ l' ≤ c') := by
  refine vf18 _ _ _ _ h _ ?_
  unfold F18
  have hlen : rs.length = l := by obtain ⟨_, _, _, _, e⟩ := hr; exact e
  have hpos : 0 < l := by rw [← hlen]; exact List.length_pos_iff.2 hne
  have k := St.fresh h
  refine CallsH.mono (open_spec hT (.nil _ _) (Nat.zero_le _)) ?_
  rintro _ h2 (⟨hS, _⟩ | ⟨st, p, ra, rl, rc, hS, rfl, k1⟩)
  · rw [open_none] at hS; cases hS
  rw [open_none] at hS
  have hS := Option.some.inj hS
  subst hS
  have k := (k.add2 k1).pull1.drop
  have ok0 : (open0 []).s.Ok := (openS_ok open_none).1
  have big0 : (open0 []).s.big = 0 := rfl
  obtain ⟨r0, hr0⟩ : ∃ r0, rs[0]? = some r0 := ⟨_, List.getElem?_eq_getElem (by omega)⟩
  have hr00 := h300 r0 (List.mem_of_getElem? hr0)
  refine ⟨_, _, _, _, _, rfl, cond_false rfl ⟨fun h' => ∃ num s, OneS s num (rs.take 1) ∧ s.Ok ∧ s.big ≤ 1000 ∧ St none_ h h' [LogA 81 83 p s], ?_, ?_⟩⟩
  · have ht1 : rs.take 1 = [r0] := by
      cases rs with
      | nil => exact absurd rfl hne
      | cons x r => cases hr0; rfl
    have key : ∀ {F : Nat → Prop} {hh : Heap} {K : Addr → Prop}, RoL F hh a l rs → (∀ ad (x : Sg), cellH hh ad = some (sgV x) → Ro F hh x.a (bytesV r0) → r0.length = x.l → K ad) → VIdx a l 0 1 K := fun m q =>
      m.one (by omega) (by omega) fun ad x hx hc r1 r2 r3 => by
        rw [show (0 : Int).toNat = 0 from rfl, hr0] at hx
        have hx := Option.some.inj hx
        rw [← hx] at r1 r2
        exact q ad x hc r1 r2
    cases rolled with
    | true =>
      refine cond_true rfl (k.vnew fun b7 h8 k => ?_)
      refine k.marked und26 und5 fun h10 k => ⟨_, _, _, rfl, ?_⟩
      obtain ⟨F, G, k2, kG, d, hF, back⟩ := k.pull1.frameA
      have hro : Ro F h10 (some ⟨b7, 0, none⟩) (bytesV [111, 108, 100]) := kG.roB d (b := b7)
      refine CallsH.mono (append_spec (r := [111, 108, 100]) k2 (hT.at k.ext hF) hro rfl (by omega) ok0 (by omega)) ?_
      rintro _ h13 (⟨hgt, _⟩ | ⟨_, rfl, k3⟩)
      · omega
      have k := back k3
      have ok1 := addS_ok ok0 [111, 108, 100]
      have hb1 := addS_big (open0 []).s [111, 108, 100]
      have e3 : ([111, 108, 100] : Bytes).length = 3 := rfl
      obtain ⟨F, G, k2, kG, d, hF, back⟩ := k.frameA
      refine ⟨_, rfl, key (hr.at k.ext hF) fun ad x hc r1 r2 => ⟨_, _, _, hc, ?_⟩⟩
      refine CallsH.mono (roll_spec (r := r0) k2 (hT.at k.ext hF) r1 r2 (by omega) ok1 (by omega)) ?_
      rintro _ h18 (⟨hgt, _⟩ | ⟨_, rfl, k3⟩)
      · omega
      have k := back k3
      have hb2 := rollS_big (addS (open0 []).s [111, 108, 100]) r0
      exact ⟨_, rfl, _, _, by rw [ht1]; exact (OneS.first _).roll r0, rollS_ok ok1 r0, by omega, k.pull1.drop⟩
    | false =>
      refine cond_false rfl ?_
      obtain ⟨F, G, k2, kG, d, hF, back⟩ := k.frameA
      refine key (hr.at k.ext hF) fun ad x hc r1 r2 => ⟨_, _, _, hc, ?_⟩
      refine CallsH.mono (append_spec (r := r0) k2 (hT.at k.ext hF) r1 r2 (by omega) ok0 (by omega)) ?_
      rintro _ h18 (⟨hgt, _⟩ | ⟨_, rfl, k3⟩)
      · omega
      have k := back k3
      have hb2 := addS_big (open0 []).s r0
      exact ⟨_, rfl, _, _, by rw [ht1]; exact OneS.first r0, addS_ok ok0 r0, by omega, k⟩
  · rintro h25 _ ⟨num, s, one, ok, hbig, k⟩
    have hst : ∃ n, ∃ (j : Nat) (s : LogS), (1 : Int) = j ∧ 1 ≤ j ∧ j ≤ l ∧ n = l - j ∧ OneS s num (rs.take j) ∧ s.Ok ∧ s.big ≤ 1000 + 400 * j ∧ St none_ h h25 [LogA 81 83 p s] := ⟨_, 1, s, rfl, by omega, by omega, rfl, one, ok, by omega, k⟩
    refine ⟨fun n hh _ _ _ _ i => ∃ (j : Nat) (s : LogS), i = j ∧ 1 ≤ j ∧ j ≤ l ∧ n = l - j ∧ OneS s num (rs.take j) ∧ s.Ok ∧ s.big ≤ 1000 + 400 * j ∧ St none_ h hh [LogA 81 83 p s], hst, ?_⟩
    clear hst k one ok hbig
    rintro n hh _ _ _ _ _ i ⟨j, s, rfl, hj1, hj, rfl, one, ok, hbig, k⟩
    refine cond_split (fun hc => ?_) (fun hc => ?_)
    · have hjl : j < l := Int.ofNat_lt.1 (of_decide_eq_true hc)
      obtain ⟨r, hrj⟩ : ∃ r, rs[j]? = some r := ⟨_, List.getElem?_eq_getElem (by omega)⟩
      have hr300 := h300 r (List.mem_of_getElem? hrj)
      obtain ⟨F, G, k2, kG, d, hF, back⟩ := k.frameA
      refine (hr.at k.ext hF).one (by omega) (by omega) fun ad x hx hcell r1 r2 r3 => ⟨_, _, _, hcell, ?_⟩
      rw [Int.toNat_natCast, hrj] at hx
      have hx := Option.some.inj hx
      rw [← hx] at r1 r2
      refine CallsH.mono (append_spec (r := r) k2 (hT.at k.ext hF) r1 r2 (by omega) ok (by omega)) ?_
      rintro _ h38 (⟨hgt, _⟩ | ⟨_, rfl, k3⟩)
      · omega
      have k := back k3
      have hb2 := addS_big s r
      have ht : rs.take (j + 1) = rs.take j ++ [r] := by rw [List.take_add_one, hrj]; rfl
      exact ⟨_, rfl, cond_false rfl ⟨l - (j + 1), by omega, j + 1, _, by rw [wrap_id (by omega) (by omega)]; omega, by omega, hjl, rfl, by rw [ht]; exact one.add (by rw [List.length_take]; omega) r, addS_ok ok r, by omega, k⟩⟩
    · have hjl : j = l := by
        have : ¬ (j : Int) < l := of_decide_eq_false hc
        omega
      subst hjl
      rw [← hlen, List.take_length] at one
      obtain ⟨F, G, k2, kG, d, hF, back⟩ := k.frameA
      refine CallsH.mono (sync_spec k2 (by omega) ok) ?_
      rintro _ h41 ⟨rfl, k3⟩
      have k := back k3
      have ok2 := syncS_ok ok
      have hb2 := syncS_big s
      refine ⟨rfl, CallsH.mono (crash_spec 0 (k.log (p := p)) ok2.ws (by omega) (by omega)) ?_⟩
      rintro _ h43 ⟨a44, l44, c44, rfl, k4⟩
      rw [one.sync] at k4
      have k := k.add1 k4
      have hl44 : l44 = 1 := (LV.len k).1.symm
      subst hl44
      refine ⟨_, _, _, rfl, k.vnew fun b45 h46 k => ?_⟩
      refine k.vst (by simp) fun h47 k => ⟨_, _, _, k.rd (by rfl), cond_false rfl ⟨_, _, _, k.rd (by rfl), ?_⟩⟩
      refine (k.roL (a := a44)).one (by omega) (by omega) fun ad x hx hcell r1 r2 r3 => ⟨_, _, _, hcell, ?_⟩
      have hx := Option.some.inj hx
      rw [← hx] at r1 r2
      exact ⟨num, _, _, _, rfl, k.ext, r1.sl, r2, r3⟩
end Go.Proofs.YtbaglaoefaoaoaaDoor.F
