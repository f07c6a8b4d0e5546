/- The law: payloads that a stream answers are the caller's own. Conditions: none. -/
import Derived.Test.YtgdgebmlcgohhaaGreatDoorFN
namespace Go.Proofs.YtgdgebmlcgohhaaGreatDoor.F
open Go Go.VC Go.Proofs
set_option linter.unusedSimpArgs false
set_option linter.unusedVariables false
set_option maxRecDepth 100000
attribute [local irreducible] CallsH RunsTo PureTo

variable {S F G : Nat → Prop} {h0 h h1 : Heap} {L R L' : List A} {a b0 la wa b : Option Addr} {l c l2 c2 p cl cw g t e sz bt lr cr : Nat} {n : Int} {vs news : List Value} {z : Value} {q : Rq} {u : Rp} {v : Val} {bs : Bytes} {xs raws : List Bytes}
theorem wholeB {p : Nat} {m : Cm} {n : Int} (k : St none_ h0 h (Bk p m n :: R)) (ok : CgOk 3 m) (hm : m.es.length < 1152921504606846976) : CallsH Tryz.prog 15 #[.pointer (some ⟨p, 0, none⟩)] h (fun v h' => v = .bool true ∧ h' = h) := by
  have kb : St none_ h0 h (A.blk p #[hdV m, .int .i64 n] 35 :: hdA 36 m :: BfK KdB m.bufs :: R) := St.open (L := BookL p m n) k
  exact bwhole_spec (ok.r (e := 36) kb.pull1 kb.pull2 hm) (kb.rd (by rfl))
set_option maxHeartbeats 8000000 in
theorem fresh_spec {ly : Nat} (hw : Wd none_ h) (hs : Spk none_ h) (rp : RoX bytC none_ h a ly xs) (hx : ∀ b ∈ xs, b.length ≤ 140737488355328) (hc1 : ly ≤ c) (hc2 : c < 9223372036854775808) (rr : RoX bytC none_ h b lr raws) (hraw : ∀ b ∈ raws, b.length ≤ 140737488355328) (hc3 : lr ≤ cr) (hc4 : cr < 9223372036854775808) :
    CallsH Tryz.prog 4 #[.slice a ly c, .slice b lr cr] h (fun v h' => v = .bool true ∧ Ext h h') := by
  have hf : ∀ b, none_ b → False ∨ h.size ≤ b := fun _ h => h.elim
  refine vf4 _ _ _ _ _ _ h _ ?_
  unfold F4
  refine CallsH.mono (begun_spec hw hs) ?_
  rintro _ h2 ⟨rfl, m1⟩
  refine ⟨_, rfl, cond_false rfl ?_⟩
  refine CallsH.mono (some_spec (bytC.toE (rp.at m1 hf)) hc1 rp.len hx hc2) ?_
  rintro _ _ ⟨rfl, l, hl, rfl, hsx⟩
  refine ⟨_, _, _, rfl, ?_⟩
  refine CallsH.mono (some_spec (bytC.toE (rr.at m1 hf)) hc3 rr.len hraw hc4) ?_
  rintro _ _ ⟨rfl, lw, hlw, rfl, hsr⟩
  refine ⟨_, _, _, rfl, ?_⟩
  have rp := RoX.cut rp hl
  have rr := RoX.cut rr hlw
  generalize xs.take l = xs at *
  generalize raws.take lw = raws at *
  refine CallsH.mono (unwritten_spec (hw.at m1 hf) (hs.at m1 hf) (bytC.toE (rp.at m1 hf)) hsx (rr.at m1 hf) hsr) ?_
  rintro _ h11 ⟨rfl, m2⟩
  refine ⟨_, rfl, cond_false rfl ?_⟩
  have k0 : St none_ h h11 [] := (St.fresh h).next (m1.then m2)
  refine CallsH.mono new_spec ?_
  rintro _ h14 ⟨p1, rfl, kd⟩
  have k := k0.add1 kd
  refine ⟨_, rfl, ?_⟩
  refine CallsH.mono new_spec ?_
  rintro _ h17 ⟨p2, rfl, kd⟩
  have k := k.add1 kd
  refine ⟨_, rfl, k.vnew fun b19 h20 k => ?_⟩
  have k := St.close (L := BookL b19 bk0 0) (newBook k)
  have k : St none_ h h20 [Bk b19 bk0 0, ST p1 [] false, ST p2 [] false] := k.sel 3 [0, 2, 1] rfl (by decide) (by rfl)
  refine ⟨fun mm h' y i => ∃ (j : Nat) (m : Cm) (n : Int) (w : Bytes) (sp : Bool) (cnt : Nat), i = j ∧ j ≤ l ∧ mm = l - j ∧ y = false ∧ CgOk 3 m ∧ m.es.length ≤ 3 * cnt ∧ 8 * cnt + w.length ≤ lensum (xs.take j) ∧
    St none_ h h' [Bk b19 m n, ST p1 w sp, ST p2 w sp], ⟨_, 0, bk0, 0, [], false, 0, rfl, Nat.zero_le _, rfl, rfl, .nil 3, Nat.zero_le _, Nat.zero_le _, k⟩, ?_⟩
  clear k
  rintro mm h23 _ y i ⟨j, m, n, w, sp, cnt, rfl, hj, rfl, rfl, ok, hml, hcw, k⟩
  have hle : lensum (xs.take j) ≤ lensum xs := lsum_take xs j
  refine cond_split (fun hc => ?_) (fun hc => ?_)
  rotate_left
  · exact g4a_spec hw hs rr (fun x hx => by have := lensum_mem hx; omega) (by omega) ok (by omega) (keep (L := [Bk b19 m n]) (R := [_, _]) k) rfl
  have hjl : j < l := Int.ofNat_lt.1 (of_decide_eq_true hc)
  obtain ⟨bs, hbs⟩ : ∃ bs, xs[j]? = some bs := ⟨_, List.getElem?_eq_getElem (by have := rp.len; omega)⟩
  have hbl := lensum_mem (List.mem_of_getElem? hbs)
  have hnx := lensum_next hbs
  have hle1 : lensum (xs.take (j + 1)) ≤ lensum xs := lsum_take xs (j + 1)
  have hrl := roomB_len bs
  have piece : ∀ {h' : Heap} {K : Addr → Prop}, Ext h h' → (∀ ad (x : Option Addr) (cx : Nat), cellH h' ad = some (.slice x bs.length cx) → Ro none_ h x (bytesV bs) → K ad) → VIdx a l (j : Int) 1 K := fun m q =>
    rp.one m (by omega) (by omega) fun ad z hz hcz hrd => by
      rw [Int.toNat_natCast, hbs] at hz
      have hz : bs = z.bs := Option.some.inj hz
      have hrd : Ro none_ h z.a (bytesV z.bs) ∧ z.bs.length ≤ z.c := hrd
      exact q ad z.a z.c (by rw [hz]; exact hcz 0 _ rfl) (by rw [hz]; exact hrd.1)
  refine piece k.ext fun ad x cx hcd hro => ⟨_, _, _, hcd, ?_⟩
  refine CallsH.mono (roomy_spec (hro.mod k.ext).sl rfl (by omega)) ?_
  rintro _ h31 ⟨a32, c32, rfl, kd⟩
  have k := k.add1 kd
  have hc32 := (St.vec (a := a32) k).1.le
  refine ⟨_, _, _, rfl, piece k.ext fun ad2 x2 cx2 hcd2 hro2 => ⟨_, _, _, hcd2, front rfl rfl (by omega) hc32 ?_⟩⟩
  have hsum := feed_sum w sp bs
  have k := k.sel 4 [2, 0, 1, 3] rfl (by decide) (L' := [ST p1 w sp, BV a32 (roomB bs).length c32 (roomB bs), Bk b19 m n, ST p2 w sp]) (by rfl)
  obtain ⟨F', G, kF, kG, d, hF, back⟩ := k.frame2
  refine CallsH.mono (feed_spec kF (room_rd (kG.ro d (a := a32))) rfl (by omega)) ?_
  rintro _ h37 ⟨x1, cx1, rfl, k2⟩
  have k := back k2
  clear back kF kG d hF
  refine ⟨_, _, _, _, rfl, piece k.ext fun ad3 x3 cx3 hcd3 hro3 => ⟨_, _, _, hcd3, ?_⟩⟩
  have k := k.sel 5 [4, 0, 1, 2, 3] rfl (by decide) (L' := [ST p2 w sp, _, _, _, _]) (by rfl)
  obtain ⟨F', G, kF, kG, d, hF, back⟩ := k.frame2
  refine CallsH.mono (feed_spec kF (hro3.at k.ext hF) rfl (by omega)) ?_
  rintro _ h43 ⟨x2', cx2', rfl, k2⟩
  have k := back k2
  clear back kF kG d hF
  generalize (feedR w sp bs).1 = ls at *
  generalize (feedR w sp bs).2.1 = er at *
  generalize (feedR w sp bs).2.2.1 = w' at *
  generalize (feedR w sp bs).2.2.2 = sp' at *
  have hls : ∀ b ∈ ls, b.length ≤ 1099511627776 := fun b hb => by have := lensum_mem hb; omega
  -- [ST2, m, ST1, l, BV, Bk]
  have k : St none_ h h43 [bytE.L x1 ls.length cx1 ls, bytE.L x2' ls.length cx2' ls, Bk b19 m n, ST p1 w' sp', ST p2 w' sp', BV a32 (roomB bs).length c32 (roomB bs)] := k.sel 6 [3, 1, 5, 2, 0, 4] rfl (by decide) (by rfl)
  refine ⟨_, _, _, _, rfl, cond_false (by simp) ?_⟩
  refine CallsH.mono (lists_eq (El.ro (E := bytE) k) (El.ro (E := bytE) k.pull1) (by omega) fun x hx => by have := hls x hx; omega) ?_
  rintro _ _ ⟨rfl, rfl⟩
  refine ⟨_, rfl, ?_⟩
  rw [decide_eq_true rfl]
  refine cond_false rfl ?_
  have k := St.open (L := BookL b19 m n) (k.sel 6 [2, 0, 3, 4, 5, 1] rfl (by decide) (L' := [Bk b19 m n, bytE.L x1 ls.length cx1 ls, ST p1 w' sp', ST p2 w' sp', BV a32 (roomB bs).length c32 (roomB bs), _]) (by rfl))
  obtain ⟨F', G, kF, kG, d, hF, back⟩ := St.frame (L := BookL b19 m n ++ [bytE.L x1 ls.length cx1 ls]) k
  refine CallsH.mono (btake_spec ok kF hls (Nat.le_refl _) (by omega)) ?_
  rintro _ h50 ⟨rfl, m', n', ok', hml', k2⟩
  have k := St.close (L := BookL b19 m' n') (back (L' := BookL b19 m' n') k2)
  clear back kF kG d hF
  have k : St none_ h h50 [Bk b19 m' n', ST p1 w' sp', ST p2 w' sp', BV a32 (roomB bs).length c32 (roomB bs)] := keep (L := [_, _, _, _]) (R := [_]) k
  refine ⟨rfl, cond_split (fun _ => ?_) (fun _ => ⟨by decide, cond_split (fun _ => ?_) (fun _ => ?_)⟩)⟩
  · refine CallsH.mono (wholeB k ok' (by omega)) ?_
    rintro _ _ ⟨rfl, rfl⟩
    refine ⟨_, rfl, cond_false rfl ?_⟩
    obtain ⟨F', G, kF, kG, d, hF, back⟩ := k.pull1.frameA
    refine CallsH.mono (rest_spec kF) ?_
    rintro _ _ ⟨rfl, rfl⟩
    refine ⟨_, rfl, ?_⟩
    obtain ⟨F2, G2, kF2, kG2, d2, hF2, back2⟩ := k.pull2.frameA
    refine CallsH.mono (rest_spec kF2) ?_
    rintro _ _ ⟨rfl, rfl⟩
    refine ⟨_, rfl, cond_false (by simp) (piece k.ext fun ad5 x5 cx5 hcd5 hro5 => ⟨_, _, _, hcd5, ?_⟩)⟩
    refine CallsH.mono (roomy_spec (hro5.mod k.ext).sl rfl (by omega)) ?_
    rintro _ h63 ⟨a64, c64, rfl, kd⟩
    have k := k.add1 kd
    have s1 : Sl h63 a32 (bytesV (roomB bs)) := (k.sel 5 [4, 0, 1, 2, 3] rfl (by decide) (L' := [BV a32 (roomB bs).length c32 (roomB bs), _, _, _, _]) (by rfl)).sl (a := a32)
    have s2 : Sl h63 a64 (bytesV (roomB bs)) := k.sl (a := a64)
    refine ⟨_, _, _, rfl, ?_⟩
    refine CallsH.mono (same_spec s1 rfl s2 rfl (by omega)) ?_
    rintro _ _ ⟨rfl, rfl⟩
    refine ⟨_, rfl, ?_⟩
    rw [decide_eq_true rfl]
    refine cond_false rfl ⟨l - (j + 1), by omega, j + 1, m', n', w', sp', cnt + ls.length, wrap_nat hjl (by omega), hjl, rfl, rfl, ok', by omega, by omega, ?_⟩
    exact keep (L := [_, _, _]) (R := [_]) k.drop
  · refine CallsH.mono (wholeB k ok' (by omega)) ?_
    rintro _ _ ⟨rfl, rfl⟩
    refine ⟨_, rfl, cond_false rfl ?_⟩
    obtain ⟨F', G, kF, kG, d, hF, back⟩ := k.pull1.frameA
    refine CallsH.mono (rest_spec kF) ?_
    rintro _ _ ⟨rfl, rfl⟩
    refine ⟨_, rfl, ?_⟩
    obtain ⟨F2, G2, kF2, kG2, d2, hF2, back2⟩ := k.pull2.frameA
    refine CallsH.mono (rest_spec kF2) ?_
    rintro _ _ ⟨rfl, rfl⟩
    refine ⟨_, rfl, cond_false (by simp) (piece k.ext fun ad5 x5 cx5 hcd5 hro5 => ⟨_, _, _, hcd5, ?_⟩)⟩
    refine CallsH.mono (roomy_spec (hro5.mod k.ext).sl rfl (by omega)) ?_
    rintro _ h63 ⟨a64, c64, rfl, kd⟩
    have k := k.add1 kd
    have s1 : Sl h63 a32 (bytesV (roomB bs)) := (k.sel 5 [4, 0, 1, 2, 3] rfl (by decide) (L' := [BV a32 (roomB bs).length c32 (roomB bs), _, _, _, _]) (by rfl)).sl (a := a32)
    have s2 : Sl h63 a64 (bytesV (roomB bs)) := k.sl (a := a64)
    refine ⟨_, _, _, rfl, ?_⟩
    refine CallsH.mono (same_spec s1 rfl s2 rfl (by omega)) ?_
    rintro _ _ ⟨rfl, rfl⟩
    refine ⟨_, rfl, ?_⟩
    rw [decide_eq_true rfl]
    refine cond_false rfl ⟨l - (j + 1), by omega, j + 1, m', n', w', sp', cnt + ls.length, wrap_nat hjl (by omega), hjl, rfl, rfl, ok', by omega, by omega, ?_⟩
    exact keep (L := [_, _, _]) (R := [_]) k.drop
  · skip
    obtain ⟨F', G, kF, kG, d, hF, back⟩ := k.pull1.frameA
    refine CallsH.mono (rest_spec kF) ?_
    rintro _ _ ⟨rfl, rfl⟩
    refine ⟨_, rfl, ?_⟩
    obtain ⟨F2, G2, kF2, kG2, d2, hF2, back2⟩ := k.pull2.frameA
    refine CallsH.mono (rest_spec kF2) ?_
    rintro _ _ ⟨rfl, rfl⟩
    refine ⟨_, rfl, cond_false (by simp) (piece k.ext fun ad5 x5 cx5 hcd5 hro5 => ⟨_, _, _, hcd5, ?_⟩)⟩
    refine CallsH.mono (roomy_spec (hro5.mod k.ext).sl rfl (by omega)) ?_
    rintro _ h63 ⟨a64, c64, rfl, kd⟩
    have k := k.add1 kd
    have s1 : Sl h63 a32 (bytesV (roomB bs)) := (k.sel 5 [4, 0, 1, 2, 3] rfl (by decide) (L' := [BV a32 (roomB bs).length c32 (roomB bs), _, _, _, _]) (by rfl)).sl (a := a32)
    have s2 : Sl h63 a64 (bytesV (roomB bs)) := k.sl (a := a64)
    refine ⟨_, _, _, rfl, ?_⟩
    refine CallsH.mono (same_spec s1 rfl s2 rfl (by omega)) ?_
    rintro _ _ ⟨rfl, rfl⟩
    refine ⟨_, rfl, ?_⟩
    rw [decide_eq_true rfl]
    refine cond_false rfl ⟨l - (j + 1), by omega, j + 1, m', n', w', sp', cnt + ls.length, wrap_nat hjl (by omega), hjl, rfl, rfl, ok', by omega, by omega, ?_⟩
    exact keep (L := [_, _, _]) (R := [_]) k.drop
end Go.Proofs.YtgdgebmlcgohhaaGreatDoor.F
