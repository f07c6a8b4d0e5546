/- The laws of proto: streams beside one another. Conditions: none. -/
import Derived.Test.YtgdgebmlcgohhaaDoorQL
namespace Go.Proofs.YtgdgebmlcgohhaaDoor.F
open Go Go.VC Go.Proofs
set_option linter.unusedSimpArgs false
set_option linter.unusedVariables false
set_option maxRecDepth 100000
attribute [local irreducible] CallsH RunsTo PureTo

variable {S F G : Nat → Prop} {h0 h h1 : Heap} {L R L' : List A} {a b a1 a2 na ea nb eb ga ha nm ra : Option Addr} {l c l1 c1 l2 c2 p t b1 nc ec nd ed gc hc nk rc s r : Nat} {bs cs bs1 bs2 w raw m : List UInt8} {err e1 : Int} {v : Val} {bad bad1 sp : Bool} {q : Rq} {u : Rp}
/-- The place where the pieces lie. -/
def PL (p : Nat) (m : Bytes) : A := A.ex fun x : Option Addr × Nat => A.all [A.blk p #[.slice x.1 m.length x.2] 60, BV x.1 m.length x.2 m]
theorem PL.open (k : St S h0 h (PL p m :: R)) : ∃ a c, St S h0 h (A.blk p #[.slice a m.length c] 60 :: BV a m.length c m :: R) := by
  obtain ⟨x, k⟩ := St.opens k
  exact ⟨x.1, x.2, St.open (L := [A.blk p #[.slice x.1 m.length x.2] 60, BV x.1 m.length x.2 m]) k⟩
theorem PL.close (k : St S h0 h (A.blk p #[.slice a m.length c] 60 :: BV a m.length c m :: R)) : St S h0 h (PL p m :: R) :=
  St.closes (f := fun x : Option Addr × Nat => A.all [A.blk p #[.slice x.1 m.length x.2] 60, BV x.1 m.length x.2 m]) (x := (a, c)) (St.close (L := [A.blk p #[.slice a m.length c] 60, BV a m.length c m]) k)
theorem _root_.Go.VC.St.frameC {x y z : A} (k : St S h0 h (x :: y :: z :: R)) : ∃ F G, Holds [x, y, z] F h ∧ Holds R G h ∧ (∀ b, F b → ¬ G b) ∧ (∀ b, F b → S b ∨ h0.size ≤ b) ∧ ∀ {h' : Heap} {x y z : A}, St F h h' [x, y, z] → St S h0 h' (x :: y :: z :: R) := by
  obtain ⟨F, G, a1, a2, a3, a4, a5⟩ := St.frame (L := [x, y, z]) k
  exact ⟨F, G, a1, a2, a3, a4, fun q => a5 q⟩
theorem roomB_take (bs : Bytes) : (roomB bs).take bs.length = bs := by unfold roomB; exact List.take_left' rfl
theorem feed_len (w X : Bytes) (sp : Bool) : (feedR w sp X).2.2.1.length ≤ w.length + X.length ∧ (feedR w sp X).1.length ≤ w.length + X.length ∧ ∀ y ∈ (feedR w sp X).1, y.length ≤ w.length + X.length := by
  unfold feedR
  cases sp
  · have h1 := cuts_len _ (w ++ X) (Nat.lt_succ_self _)
    have h2 := cut_mem_len _ (w ++ X) (Nat.lt_succ_self _)
    rw [List.length_append] at h1 h2
    exact ⟨h1.2, h1.1, h2⟩
  · exact ⟨by show w.length ≤ _; omega, Nat.zero_le _, fun y hy => by cases hy⟩
set_option maxHeartbeats 1000000 in
theorem feeds_spec (k0 : Holds [PL p m, ST s w sp, SD r w sp] F h) (hs : Ro F h a (bytesV bs)) (hl : bs.length = l) (hb : w.length + l ≤ 1099511627000) : CallsH Tryd.prog 20 #[.pointer (some ⟨p, 0, none⟩), .pointer (some ⟨s, 0, none⟩), .pointer (some ⟨r, 0, none⟩), .slice a l c] h
    (fun v h' => v = .bool true ∧ ∃ m', St F h h' [PL p m', ST s (feedR w sp bs).2.2.1 (feedR w sp bs).2.2.2, SD r (feedR w sp bs).2.2.1 (feedR w sp bs).2.2.2]) := by
  subst hl
  refine vf20 _ _ _ _ _ _ h _ ?_
  unfold F20
  obtain ⟨ap, cp, k⟩ := PL.open (St.start k0)
  refine VSome.mk ⟨_, _, _, k.rd (by rfl), ?_⟩
  refine k.pull1.cut (lo := 0) (hi := 0) (mx := cp) rfl rfl rfl (Nat.le_refl _) (Nat.zero_le _) (Nat.zero_le _) (Nat.le_refl _) fun a3 k => ?_
  have e0 : ((bytesV m).take (0 * 1)).drop (0 * 1) = bytesV [] := by simp [bytesV]
  rw [e0] at k
  have k : St F h h [BV a3 0 (cp - 0) [], A.blk p #[.slice ap m.length cp] 60, ST s w sp, SD r w sp] := k
  refine CallsH.mono (roomy_spec (hs.in k).sl rfl (by omega)) ?_
  rintro _ h5 ⟨a6, c6, rfl, k2⟩
  have k := k.add1 k2
  refine ⟨_, _, _, rfl, k.rd (by rfl), ?_⟩
  have hrl := roomB_len bs
  refine app_bytes (s := roomB bs) k.pull1 (k.sl (a := a6)) (by omega) fun a9 c9 h8 k => ⟨_, _, _, rfl, VSome.mk (k.vst (Nat.le_of_ble_eq_true (by rfl)) fun h11 k => VSome.mk ⟨_, _, _, k.rd (by rfl), ?_⟩)⟩
  rw [List.nil_append, Nat.zero_add] at k
  rw [Nat.zero_add]
  have k : St F h h11 [BV a9 (roomB bs).length c9 (roomB bs), BV a6 (roomB bs).length c6 (roomB bs), A.blk p #[.slice a9 (roomB bs).length c9] 60, ST s w sp, SD r w sp] := k
  have k := k.sel 5 [3, 4, 0, 2, 1] rfl (by decide) (L' := [ST s w sp, SD r w sp, BV a9 (roomB bs).length c9 (roomB bs), A.blk p #[.slice a9 (roomB bs).length c9] 60, _]) (by rfl)
  have hc9 := (k.vec (a := a9)).1.le
  refine cutA (bs := roomB bs) rfl (lo := 0) (hi := bs.length) (mx := (roomB bs).length) rfl rfl rfl (by omega) (by omega) (by omega) hc9 fun a14 r14 l14 => ?_
  rw [List.drop_zero, roomB_take] at r14 l14
  obtain ⟨F', G, kF, kG, d, hF, back⟩ := k.frame2
  refine CallsH.mono (feed_spec kF (r14 _ _ (kG.ro d (a := a9))) l14 (fun _ => by omega)) ?_
  rintro _ h16 ⟨a17, c17, rfl, k2⟩
  have k := back k2
  clear back kF kG d hF
  refine ⟨_, _, _, _, rfl, ?_⟩
  have k := k.sel 6 [2, 1, 0, 3, 4, 5] rfl (by decide) (L' := [SD r w sp, bytE.L a17 _ c17 _, ST s _ _, BV a9 (roomB bs).length c9 (roomB bs), _, _]) (by rfl)
  obtain ⟨F', G, kF, kG, d, hF, back⟩ := k.frame2
  refine CallsH.mono (dfeed_spec kF (hs.at k.ext hF) rfl (by omega)) ?_
  rintro _ h20 ⟨a21, c21, rfl, k2⟩
  have k := back k2
  clear back kF kG d hF
  have hfl := feed_len w bs sp
  refine ⟨_, _, _, _, rfl, cond_false (by simp) ?_⟩
  refine CallsH.mono (lists_eq (El.ro (E := bytE) k.pull2) (El.ro (E := bytE) k.pull1) (by omega) (fun y hy => by have := hfl.2.2 y hy; omega)) ?_
  rintro _ _ ⟨rfl, rfl⟩
  refine ⟨_, rfl, cond_false (by simp) ?_⟩
  refine CallsH.mono (roomy_spec (hs.in k).sl rfl (by omega)) ?_
  rintro _ h27 ⟨a28, c28, rfl, k2⟩
  have k := k.add1 k2
  refine ⟨_, _, _, rfl, ?_⟩
  refine CallsH.mono (same_spec (bs := roomB bs) (cs := roomB bs) (k.sl (a := a9)) rfl (k.sl (a := a28)) rfl (by omega)) ?_
  rintro _ _ ⟨rfl, rfl⟩
  refine ⟨_, rfl, cond_false (by simp) ?_⟩
  have k := k.sel 8 [5, 6, 4, 1, 2, 3, 0, 7] rfl (by decide) (L' := [BV a9 (roomB bs).length c9 (roomB bs), A.blk p #[.slice a9 (roomB bs).length c9] 60, ST s _ _, SD r _ _, _, _, _, _]) (by rfl)
  have k := St.only4 k
  generalize (feedR w sp bs) = X at *
  generalize (roomB bs).length = n at *
  refine ⟨fun q hh i => ∃ (j : Nat) (m' : Bytes), i = j ∧ j ≤ n ∧ q = n - j ∧ m'.length = n ∧ St F h hh [BV a9 n c9 m', A.blk p #[.slice a9 n c9] 60, ST s X.2.2.1 X.2.2.2, SD r X.2.2.1 X.2.2.2], ⟨_, 0, roomB bs, rfl, by omega, rfl, ?_, k⟩, ?_⟩
  · have := (k.vec (a := a9)).1.len
    rw [bytesV_len, Nat.mul_one] at this
    exact this
  clear k
  rintro q hh _ i ⟨j, m', rfl, hj, rfl, hm', k⟩
  refine cond_split (fun hc => ?_) (fun hc => ?_)
  · have hjl : j < n := Int.ofNat_lt.1 (of_decide_eq_true hc)
    refine k.vix hjl fun g o hao => ?_
    subst hao
    refine k.vone (w := byteV 238) (by rw [bytesV_len, hm']) hjl rfl fun h39 k => ⟨n - (j + 1), by omega, j + 1, m'.set j 238, wrap_nat hjl (by omega), hjl, rfl, by rw [List.length_set, hm'], ?_⟩
    rw [set_byte] at k
    exact k
  · subst hm'
    have k := PL.close k.pull1
    obtain ⟨F', G, kF, kG, d, hF, back⟩ := k.pull1.frameA
    refine CallsH.mono (rest_spec kF) ?_
    rintro _ _ ⟨rfl, rfl⟩
    clear back kF kG d hF
    refine ⟨_, rfl, ?_⟩
    obtain ⟨F', G, kF, kG, d, hF, back⟩ := k.pull2.frameA
    refine CallsH.mono (drest_spec kF) ?_
    rintro _ _ ⟨rfl, rfl⟩
    exact ⟨_, rfl, by simp, m', k⟩
def tot (bss : List (List UInt8)) : Nat := (bss.map fun b => b.length + 1).sum
theorem tot_take {bss : List Bytes} : ∀ {j : Nat} {x : Bytes}, bss[j]? = some x → tot (bss.take (j + 1)) = tot (bss.take j) + (x.length + 1) := by
  intro j x h
  unfold tot
  rw [take_next h, List.map_append, List.sum_append]; simp
theorem tot_le (bss : List Bytes) (j : Nat) : tot (bss.take j) ≤ tot bss := by
  unfold tot
  conv => rhs; rw [← List.take_append_drop j bss, List.map_append, List.sum_append]
  omega
theorem tot_len (bss : List Bytes) : bss.length ≤ tot bss := by
  induction bss with
  | nil => simp
  | cons b bss ih =>
    have : tot (b :: bss) = b.length + 1 + tot bss := rfl
    rw [this, List.length_cons]; omega
theorem tot_get {bss : List Bytes} {j : Nat} {x : Bytes} (h : bss[j]? = some x) : x.length + 1 ≤ tot bss := by
  have h1 := tot_take h
  have h2 := tot_le bss (j + 1)
  omega
/-- The stream that begins in the midst: none yet, or both. -/
inductive Xs : Option Addr → Option Addr → Nat → List A → Prop where
  | no (n : Nat) : Xs none none n []
  | yes (p q : Nat) (w : Bytes) (sp : Bool) (n : Nat) (h : w.length ≤ n) : Xs (some ⟨p, 0, none⟩) (some ⟨q, 0, none⟩) n [ST p w sp, SD q w sp]
theorem _root_.Go.VC.St.app0 (k : St S h0 h (L ++ [])) : St S h0 h L := by rw [List.append_nil] at k; exact k
set_option maxHeartbeats 2000000 in
theorem streams_spec {ps pc : List Bytes} {os : List Bool} {ap ao : Option Addr} {lp cp lo co : Nat} (hw : Wd none_ h) (hs : Spk none_ h) (rs : RoX bytE none_ h a l ps) (rp : RoX bytE none_ h ap lp pc) (ro : Sl h ao (os.map fun b => Value.bool b)) (hlo : os.length = lo) (hb : tot ps ≤ 274877906944) (hb2 : tot pc ≤ 274877906944) (hb3 : lo ≤ 1099511627776) :
    CallsH Tryd.prog 4 #[.slice a l c, .slice ap lp cp, .slice ao lo co] h (fun v h' => v = .bool true ∧ Ext h h') := by
  refine vf4 _ _ _ _ _ _ _ _ _ h _ ?_
  unfold F4
  refine CallsH.mono (begun_spec hw hs) ?_
  rintro _ h2 ⟨rfl, m⟩
  refine ⟨_, rfl, cond_false rfl ?_⟩
  have htl := tot_len ps
  have hpl := rs.len
  refine ⟨fun n hh _ i => ∃ j : Nat, i = j ∧ j ≤ l ∧ n = l - j ∧ Ext h hh, ⟨_, 0, rfl, by omega, rfl, m⟩, ?_⟩
  clear m
  rintro n h6 _ _ i ⟨j, rfl, hj, rfl, m⟩
  refine cond_split (fun hc => ?_) (fun hc => ?_)
  · have hjl : j < l := Int.ofNat_lt.1 (of_decide_eq_true hc)
    refine rs.one m (by omega) (by omega) fun ad x hx hcx rx => ⟨_, _, _, hcx 0 _ rfl, ?_⟩
    rw [Int.toNat_natCast] at hx
    have htx : x.bs.length + 1 ≤ tot ps := tot_get hx
    refine CallsH.mono (roomy_spec (rx.sl.ext m) rfl (by omega)) ?_
    rintro _ h14 ⟨a15, c15, rfl, k⟩
    have m2 := m.then k.ext
    refine ⟨_, _, _, rfl, rs.one m2 (by omega) (by omega) fun ad x2 hx2 hcx2 rx2 => ⟨_, _, _, hcx2 0 _ rfl, ?_⟩⟩
    rw [Int.toNat_natCast] at hx2
    have e2 : x2.bs = x.bs := Option.some.inj (hx2.symm.trans hx)
    rw [e2]
    have hc15 := (k.vec (a := a15)).1.le
    have hrl := roomB_len x.bs
    refine cutA (bs := roomB x.bs) rfl (lo := 0) (hi := x.bs.length) (mx := (roomB x.bs).length) rfl rfl rfl (by omega) (by omega) (by omega) hc15 fun a18 r18 l18 => ?_
    rw [List.drop_zero, roomB_take] at r18 l18
    refine CallsH.mono (frame_spec (r18 _ _ (k.sl (a := a15)).ro).sl l18) ?_
    rintro _ h20 ⟨a21, c21, rfl, k2⟩
    have k := k.add1 k2
    have m3 := m.then k.ext
    refine ⟨_, _, _, _, rfl, rs.one m3 (by omega) (by omega) fun ad x3 hx3 hcx3 rx3 => ⟨_, _, _, hcx3 0 _ rfl, ?_⟩⟩
    rw [Int.toNat_natCast] at hx3
    have e3 : x3.bs = x.bs := Option.some.inj (hx3.symm.trans hx)
    refine CallsH.mono (dframe_spec (bs := x3.bs) (rx3.sl.ext m3) rfl (by rw [e3]; omega)) ?_
    rintro _ h26 ⟨a27, c27, rfl, k2⟩
    rw [e3] at k2 ⊢
    have k := k.add1 k2
    refine ⟨_, _, _, _, rfl, cond_false (by simp) ?_⟩
    have hfr : (frameR x.bs).1.length ≤ 65536 := by
      unfold frameR
      split
      · exact Nat.zero_le _
      · show (frameB x.bs).length ≤ _
        rw [frameB_len]; omega
    refine CallsH.mono (same_spec (k.sl (a := a21)) rfl (k.sl (a := a27)) rfl (by omega)) ?_
    rintro _ _ ⟨rfl, rfl⟩
    have m4 := m.then k.ext
    refine ⟨_, rfl, cond_false (by simp) (rs.one m4 (by omega) (by omega) fun ad x4 hx4 hcx4 rx4 => ⟨_, _, _, hcx4 0 _ rfl, ?_⟩)⟩
    rw [Int.toNat_natCast] at hx4
    have e4 : x4.bs = x.bs := Option.some.inj (hx4.symm.trans hx)
    refine CallsH.mono (roomy_spec (bs := x4.bs) (rx4.sl.ext m4) rfl (by rw [e4]; omega)) ?_
    rintro _ h35 ⟨a36, c36, rfl, k2⟩
    rw [e4] at k2 ⊢
    have k := k.add1 k2
    refine ⟨_, _, _, rfl, ?_⟩
    refine CallsH.mono (same_spec (bs := roomB x.bs) (cs := roomB x.bs) (k.sl (a := a15)) rfl (k.sl (a := a36)) rfl (by omega)) ?_
    rintro _ _ ⟨rfl, rfl⟩
    exact ⟨_, rfl, cond_false (by simp) ⟨l - (j + 1), by omega, j + 1, wrap_nat hjl (by omega), hjl, rfl, m.then k.ext⟩⟩
  clear hc hj htl hpl
  have k := (St.fresh h).next m
  clear m
  refine CallsH.mono new_spec ?_
  rintro _ h41 ⟨s0, rfl, k2⟩
  have k := k.add1 k2
  refine ⟨_, rfl, ?_⟩
  refine CallsH.mono new_spec ?_
  rintro _ h44 ⟨s1, rfl, k2⟩
  have k := k.add1 k2
  refine ⟨_, rfl, k.vnew fun b46 h47 k => k.vall (by rfl) (by rfl) fun h48 k => ?_⟩
  refine CallsH.mono dnew_spec ?_
  rintro _ h50 ⟨r0, rfl, k2⟩
  have k := k.add1 k2
  refine ⟨_, rfl, ?_⟩
  refine CallsH.mono dnew_spec ?_
  rintro _ h53 ⟨r1, rfl, k2⟩
  have k := k.add1 k2
  refine ⟨_, rfl, k.vnew fun b55 h56 k => k.vall (by rfl) (by rfl) fun h57 k => ?_⟩
  refine ⟨by omega, by omega, VSome.mk ⟨_, k.rd (by rfl), cond_false rfl ⟨by omega, by omega, VSome.mk ⟨_, k.rd (by rfl), cond_false rfl (k.vnew fun b62 h63 k => ?_)⟩⟩⟩⟩
  have k := (k.vnil 5 (sz := 1) (by omega)).sel 8 [1, 0, 7, 4, 6, 3, 5, 2] rfl (by decide) (L' := [A.blk b62 #[.slice none ([] : Bytes).length 0] 60, BV none ([] : Bytes).length 0 [], ST s0 [] false, SD r0 [] false, ST s1 [] false, SD r1 [] false, A.blk b46 #[.pointer (some ⟨s0, 0, none⟩), .pointer (some ⟨s1, 0, none⟩)] 54, A.blk b55 #[.pointer (some ⟨r0, 0, none⟩), .pointer (some ⟨r1, 0, none⟩)] 57]) (by rfl)
  have k := PL.close k
  have htl := tot_len pc
  have hpl := rp.len
  refine ⟨fun n hh _ _ x y i => ∃ (j : Nat) (m w0 w1 : Bytes) (p0 p1 : Bool) (X : List A), i = j ∧ j ≤ lp ∧ n = lp - j ∧ w0.length ≤ tot (pc.take j) ∧ w1.length ≤ tot (pc.take j) ∧ Xs x y (tot (pc.take j)) X ∧
    St none_ h hh (PL b62 m :: ST s0 w0 p0 :: SD r0 w0 p0 :: ST s1 w1 p1 :: SD r1 w1 p1 :: A.blk b46 #[.pointer (some ⟨s0, 0, none⟩), .pointer (some ⟨s1, 0, none⟩)] 54 :: A.blk b55 #[.pointer (some ⟨r0, 0, none⟩), .pointer (some ⟨r1, 0, none⟩)] 57 :: X),
    ⟨_, 0, [], [], [], false, false, [], rfl, by omega, rfl, Nat.zero_le _, Nat.zero_le _, .no _, k⟩, ?_⟩
  clear k
  rintro n h66 _ _ _ x y i ⟨j, m, w0, w1, p0, p1, X, rfl, hj, rfl, hw0, hw1, hX, k⟩
  refine cond_split (fun hc => ?_) (fun hc => ⟨rfl, k.ext⟩)
  have hjl : j < lp := Int.ofNat_lt.1 (of_decide_eq_true hc)
  clear hc
  have htj := tot_le pc (j + 1)
  refine ⟨fun hh _ _ x y _ => ∃ (m w0 w1 : Bytes) (p0 p1 : Bool) (X : List A), w0.length ≤ tot (pc.take (j + 1)) ∧ w1.length ≤ tot (pc.take (j + 1)) ∧ Xs x y (tot (pc.take (j + 1))) X ∧
    St none_ h hh (PL b62 m :: ST s0 w0 p0 :: SD r0 w0 p0 :: ST s1 w1 p1 :: SD r1 w1 p1 :: A.blk b46 #[.pointer (some ⟨s0, 0, none⟩), .pointer (some ⟨s1, 0, none⟩)] 54 :: A.blk b55 #[.pointer (some ⟨r0, 0, none⟩), .pointer (some ⟨r1, 0, none⟩)] 57 :: X), ?_, ?_⟩
  rotate_left
  · rintro h109 _ _ _ x y _ ⟨m, w0, w1, p0, p1, X, h1, h2, h3, k⟩
    exact ⟨lp - (j + 1), by omega, j + 1, m, w0, w1, p0, p1, X, wrap_nat hjl (by omega), hjl, rfl, h1, h2, h3, k⟩
  -- what comes behind the first answer
  have tail : ∀ {hh : Heap} {m w0 w1 : Bytes} {p0 p1 : Bool} {K : Heap → Option Addr → Option Addr → Prop}, w0.length ≤ tot (pc.take (j + 1)) → w1.length ≤ tot (pc.take (j + 1)) →
      St none_ h hh (PL b62 m :: ST s0 w0 p0 :: SD r0 w0 p0 :: ST s1 w1 p1 :: SD r1 w1 p1 :: A.blk b46 #[.pointer (some ⟨s0, 0, none⟩), .pointer (some ⟨s1, 0, none⟩)] 54 :: A.blk b55 #[.pointer (some ⟨r0, 0, none⟩), .pointer (some ⟨r1, 0, none⟩)] 57 :: X) →
      (∀ h2 x' y' X', Xs x' y' (tot (pc.take j)) X' → St none_ h h2 (PL b62 m :: ST s0 w0 p0 :: SD r0 w0 p0 :: ST s1 w1 p1 :: SD r1 w1 p1 :: A.blk b46 #[.pointer (some ⟨s0, 0, none⟩), .pointer (some ⟨s1, 0, none⟩)] 54 :: A.blk b55 #[.pointer (some ⟨r0, 0, none⟩), .pointer (some ⟨r1, 0, none⟩)] 57 :: X') → K h2 x' y') →
      CallsH Tryd.prog 18 #[] hh fun v90 h91 => ∃ p92 : Option Addr, v90 = .pointer p92 ∧ ((2 : Int) ≠ (0 : Int) ∧
        cond ((j : Int) == (IntKind.i64.wrap (Int.tdiv (lp : Int) 2)))
          (CallsH Tryd.prog 18 #[] h91 fun v94 h95 => ∃ p96 : Option Addr, v94 = .pointer p96 ∧ CallsH Tryd.prog 19 #[] h95 fun v97 h98 => ∃ p99 : Option Addr, v97 = .pointer p99 ∧ K h98 p96 p99)
          (K h91 x y)) := by
    intro hh m w0 w1 p0 p1 K _ _ k q
    refine CallsH.mono new_spec ?_
    rintro _ h91 ⟨p92, rfl, k2⟩
    have k := (k.add1 k2).drop
    refine ⟨_, rfl, by omega, cond_split (fun _ => ?_) (fun _ => q _ _ _ _ hX k)⟩
    refine CallsH.mono new_spec ?_
    rintro _ h95 ⟨p96, rfl, k2⟩
    have k := k.add1 k2
    refine ⟨_, rfl, ?_⟩
    refine CallsH.mono dnew_spec ?_
    rintro _ h98 ⟨p99, rfl, k2⟩
    have k := k.add1 k2
    refine ⟨_, rfl, q _ _ _ _ (.yes p96 p99 [] false _ (Nat.zero_le _)) ?_⟩
    have k := k.pull8.pull8.pull8.pull8.pull8.pull8.pull8
    have k : St none_ h h98 ([PL b62 m, ST s0 w0 p0, SD r0 w0 p0, ST s1 w1 p1, SD r1 w1 p1, A.blk b46 #[.pointer (some ⟨s0, 0, none⟩), .pointer (some ⟨s1, 0, none⟩)] 54, A.blk b55 #[.pointer (some ⟨r0, 0, none⟩), .pointer (some ⟨r1, 0, none⟩)] 57] ++ (SD p99 [] false :: ST p96 [] false :: X)) := k
    have k := k.perm (((List.Perm.swap (ST p96 [] false) (SD p99 [] false) X)).append_left _)
    have k := k.perm (List.perm_append_comm)
    have k : St none_ h h98 ([ST p96 [] false, SD p99 [] false] ++ X ++ [PL b62 m, ST s0 w0 p0, SD r0 w0 p0, ST s1 w1 p1, SD r1 w1 p1, A.blk b46 #[.pointer (some ⟨s0, 0, none⟩), .pointer (some ⟨s1, 0, none⟩)] 54, A.blk b55 #[.pointer (some ⟨r0, 0, none⟩), .pointer (some ⟨r1, 0, none⟩)] 57]) := k
    have k := k.perm ((List.perm_append_comm (l₁ := [ST p96 [] false, SD p99 [] false]) (l₂ := X)).append_right _)
    rw [List.append_assoc] at k
    have k := St.dropL k
    exact k.perm List.perm_append_comm
  refine ⟨fun hh z => hh = h66 ∧ (z = 0 ∨ z = 1), ?_, ?_⟩
  · refine cond_split (fun hc => ?_) (fun hc => ⟨rfl, .inl rfl⟩)
    have hjo : j < lo := Int.ofNat_lt.1 (of_decide_eq_true hc)
    refine (ro.ext k.ext).one (f := fun b => Value.bool b) hlo (by omega) (by omega) fun ad b hb hcb => ⟨_, hcb, cond_split (fun _ => ⟨rfl, .inr rfl⟩) (fun _ => ⟨rfl, .inl rfl⟩)⟩
  -- the stream that begins in the midst
  have last : ∀ {hh : Heap} {m w0 w1 : Bytes} {p0 p1 : Bool} {x' y' : Option Addr} {X' : List A} {J : Heap → Prop} {P : Prop}, w0.length ≤ tot (pc.take (j + 1)) → w1.length ≤ tot (pc.take (j + 1)) → Xs x' y' (tot (pc.take j)) X' →
      St none_ h hh (PL b62 m :: ST s0 w0 p0 :: SD r0 w0 p0 :: ST s1 w1 p1 :: SD r1 w1 p1 :: A.blk b46 #[.pointer (some ⟨s0, 0, none⟩), .pointer (some ⟨s1, 0, none⟩)] 54 :: A.blk b55 #[.pointer (some ⟨r0, 0, none⟩), .pointer (some ⟨r1, 0, none⟩)] 57 :: X') →
      (∀ h2 m X2, Xs x' y' (tot (pc.take (j + 1))) X2 → St none_ h h2 (PL b62 m :: ST s0 w0 p0 :: SD r0 w0 p0 :: ST s1 w1 p1 :: SD r1 w1 p1 :: A.blk b46 #[.pointer (some ⟨s0, 0, none⟩), .pointer (some ⟨s1, 0, none⟩)] 54 :: A.blk b55 #[.pointer (some ⟨r0, 0, none⟩), .pointer (some ⟨r1, 0, none⟩)] 57 :: X2) → J h2) →
      cond (!y'.isNone) (cond x'.isNone P (VIdx ap lp (j : Int) 1 fun a104 => ∃ (a105 : Option Addr) (la105 ca105 : Nat), cellH hh a104 = some (.slice a105 la105 ca105) ∧
        CallsH Tryd.prog 20 #[.pointer (some ⟨b62, 0, none⟩), .pointer x', .pointer y', .slice a105 la105 ca105] hh fun v106 h107 => ∃ b108 : Bool, v106 = .bool b108 ∧ cond (!b108) ((fun v h' => v = Value.bool true ∧ Ext h h') (.bool false) h107) (J h107))) (J hh) := by
    intro hh m w0 w1 p0 p1 x' y' X' J P _ _ hX k q
    obtain ⟨z, hz⟩ : ∃ z, pc[j]? = some z := ⟨_, List.getElem?_eq_getElem (by omega)⟩
    have htz := tot_take hz
    cases hX with
    | no => exact cond_false rfl (q _ _ _ (.no _) k)
    | yes px qx w sp _ hwx =>
      refine cond_true rfl (cond_false rfl ?_)
      refine rp.one k.ext (by omega) (by omega) fun ad x hx hcx rx => ⟨_, _, _, hcx 0 _ rfl, ?_⟩
      rw [Int.toNat_natCast, hz] at hx
      have hx : z = x.bs := Option.some.inj hx
      subst hx
      have k := k.sel 9 [0, 7, 8, 1, 2, 3, 4, 5, 6] rfl (by decide) (L' := [PL b62 m, ST px w sp, SD qx w sp, _, _, _, _, _, _]) (by rfl)
      obtain ⟨F', G, kF, kG, d, hF, back⟩ := k.frameC
      have hfl := feed_len w x.bs sp
      refine CallsH.mono (feeds_spec kF (rx.at k.ext hF) rfl (by omega)) ?_
      rintro _ h107 ⟨rfl, m', k2⟩
      have k := back k2
      refine ⟨_, rfl, cond_false rfl (q _ m' _ (.yes px qx (feedR w sp x.bs).2.2.1 (feedR w sp x.bs).2.2.2 _ (by omega)) ?_)⟩
      exact k.sel 9 [0, 3, 4, 5, 6, 7, 8, 1, 2] rfl (by decide) (by rfl)
  rintro h78 _ z ⟨rfl, hz01⟩
  obtain ⟨pz, hpz⟩ : ∃ z, pc[j]? = some z := ⟨_, List.getElem?_eq_getElem (by omega)⟩
  have htz := tot_take hpz
  rcases hz01 with rfl | rfl
  · refine ⟨by omega, by omega, VSome.mk ⟨_, k.rd (by rfl), by omega, by omega, VSome.mk ⟨_, k.rd (by rfl), ?_⟩⟩⟩
    refine rp.one k.ext (by omega) (by omega) fun ad x1 hx hcx rx => ⟨_, _, _, hcx 0 _ rfl, ?_⟩
    rw [Int.toNat_natCast, hpz] at hx
    have hx : pz = x1.bs := Option.some.inj hx
    subst hx
    obtain ⟨F', G, kF, kG, d, hF, back⟩ := k.frameC
    have hfl := feed_len w0 x1.bs p0
    refine CallsH.mono (feeds_spec kF (rx.at k.ext hF) rfl (by omega)) ?_
    rintro _ h88 ⟨rfl, m', k2⟩
    have k := back k2
    refine ⟨_, rfl, cond_false rfl ?_⟩
    refine CallsH.mono (tail (K := fun h2 x' y' => ∃ X', Xs x' y' (tot (pc.take j)) X' ∧ St none_ h h2 (PL b62 m' :: ST s0 (feedR w0 p0 x1.bs).2.2.1 (feedR w0 p0 x1.bs).2.2.2 :: SD r0 (feedR w0 p0 x1.bs).2.2.1 (feedR w0 p0 x1.bs).2.2.2 :: ST s1 w1 p1 :: SD r1 w1 p1 :: A.blk b46 #[.pointer (some ⟨s0, 0, none⟩), .pointer (some ⟨s1, 0, none⟩)] 54 :: A.blk b55 #[.pointer (some ⟨r0, 0, none⟩), .pointer (some ⟨r1, 0, none⟩)] 57 :: X')) (by omega) (by omega) k fun h2 x' y' X' h3 k => ⟨X', h3, k⟩) ?_
    rintro _ h91 ⟨p92, rfl, q⟩
    refine ⟨_, rfl, _, q, ?_⟩
    rintro h100 _ x' y' ⟨X', hX', k⟩
    exact last (by omega) (by omega) hX' k fun h2 m X2 h3 k => ⟨m, _, _, _, _, X2, by omega, by omega, h3, k⟩
  · refine ⟨by omega, by omega, VSome.mk ⟨_, k.rd (by rfl), by omega, by omega, VSome.mk ⟨_, k.rd (by rfl), ?_⟩⟩⟩
    refine rp.one k.ext (by omega) (by omega) fun ad x1 hx hcx rx => ⟨_, _, _, hcx 0 _ rfl, ?_⟩
    rw [Int.toNat_natCast, hpz] at hx
    have hx : pz = x1.bs := Option.some.inj hx
    subst hx
    have k := k.pull4.pull4.pull2
    obtain ⟨F', G, kF, kG, d, hF, back⟩ := k.frameC
    have hfl := feed_len w1 x1.bs p1
    refine CallsH.mono (feeds_spec kF (rx.at k.ext hF) rfl (by omega)) ?_
    rintro _ h88 ⟨rfl, m', k2⟩
    have k := (back k2).pull4.pull4.pull2
    refine ⟨_, rfl, cond_false rfl ?_⟩
    refine CallsH.mono (tail (K := fun h2 x' y' => ∃ X', Xs x' y' (tot (pc.take j)) X' ∧ St none_ h h2 (PL b62 m' :: ST s0 w0 p0 :: SD r0 w0 p0 :: ST s1 (feedR w1 p1 x1.bs).2.2.1 (feedR w1 p1 x1.bs).2.2.2 :: SD r1 (feedR w1 p1 x1.bs).2.2.1 (feedR w1 p1 x1.bs).2.2.2 :: A.blk b46 #[.pointer (some ⟨s0, 0, none⟩), .pointer (some ⟨s1, 0, none⟩)] 54 :: A.blk b55 #[.pointer (some ⟨r0, 0, none⟩), .pointer (some ⟨r1, 0, none⟩)] 57 :: X')) (by omega) (by omega) k fun h2 x' y' X' h3 k => ⟨X', h3, k⟩) ?_
    rintro _ h91 ⟨p92, rfl, q⟩
    refine ⟨_, rfl, _, q, ?_⟩
    rintro h100 _ x' y' ⟨X', hX', k⟩
    exact last (by omega) (by omega) hX' k fun h2 m X2 h3 k => ⟨m, _, _, _, _, X2, by omega, by omega, h3, k⟩
end Go.Proofs.YtgdgebmlcgohhaaDoor.F
