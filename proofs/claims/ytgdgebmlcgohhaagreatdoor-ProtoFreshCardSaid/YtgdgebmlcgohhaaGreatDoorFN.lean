/- The law: what is answered is the caller's own. Conditions: none. -/
import Derived.Test.YtgdgebmlcgohhaaGreatDoorFM
namespace Go.Proofs.YtgdgebmlcgohhaaGreatDoor.F
open Go Go.VC Go.Proofs
set_option linter.unusedSimpArgs false
set_option linter.unusedVariables false
set_option maxRecDepth 100000
attribute [local irreducible] CallsH RunsTo PureTo

variable {S F G : Nat → Prop} {h0 h h1 : Heap} {L R L' : List A} {a b0 la wa b : Option Addr} {l c l2 c2 p cl cw g t e sz bt lr cr : Nat} {n : Int} {vs news : List Value} {z : Value} {q : Rq} {u : Rp} {v : Val} {bs : Bytes} {xs raws : List Bytes}
theorem room_sl (k : Sl h a (bytesV (roomB bs))) : Sl h a (bytesV bs) := by
  unfold roomB at k
  rw [bytesV_app] at k
  exact k.ro.pre.sl
theorem room_rd (k : Ro F h a (bytesV (roomB bs))) : Ro F h a (bytesV bs) := by
  unfold roomB at k
  rw [bytesV_app] at k
  exact k.pre
set_option maxHeartbeats 8000000 in
theorem g4a_spec {b19 : Nat} {m : Cm} {y0 : Bool} (hw : Wd none_ h0) (hs : Spk none_ h0) (rr : RoX bytC none_ h0 a l raws) (hraw : ∀ b ∈ raws, b.length ≤ 1099511627776) (hl : l ≤ 262144) (ok : CgOk 3 m) (hml : m.es.length ≤ 4194304) (k : St none_ h0 h [Bk b19 m n]) (hy0 : y0 = false) :
    G4a a l c b19 y0 h (fun v h' => v = .bool true ∧ Ext h0 h') := by
  have hf : ∀ b, none_ b → False ∨ h0.size ≤ b := fun _ h => h.elim
  have rdQ : ∀ {h' : Heap} {R : List A} {q : Rq} {na ea : Option Addr} {nc ec : Nat}, St none_ h0 h' (askE.own ⟨q, na, nc, ea, ec⟩ :: R) → RqRo none_ h' q na ea := fun {_ _ q na ea nc ec} k => askE.rdOwn (s := ⟨q, na, nc, ea, ec⟩) k
  have rdU : ∀ {h' : Heap} {R : List A} {u : Rp} {ga ha nb ra : Option Addr} {gc hc nd rc : Nat}, St none_ h0 h' (tellE.own ⟨u, ga, gc, ha, hc, nb, nd, ra, rc⟩ :: R) → RpRo none_ h' u ga ha nb ra := fun {_ _ u ga ha nb ra gc hc nd rc} k => tellE.rdOwn (s := ⟨u, ga, gc, ha, hc, nb, nd, ra, rc⟩) k
  unfold G4a
  refine k.vnew fun b99 h100 k => ?_
  have k := St.close (L := ListsL b99 lk0) (newLists k)
  have k : St none_ h0 h100 [Ls b99 lk0, Bk b19 m n] := k
  refine ⟨fun mm h' y i => ∃ (j : Nat) (w : Lk), i = j ∧ j ≤ l ∧ mm = l - j ∧ y = false ∧ LkOk w ∧ LkL w (j * 400000) ∧ St none_ h0 h' [Ls b99 w, Bk b19 m n], ⟨_, 0, lk0, rfl, Nat.zero_le _, rfl, hy0, lk0_ok, ⟨Nat.zero_le _, Nat.zero_le _, Nat.zero_le _⟩, k⟩, ?_⟩
  clear k
  rintro mm h103 _ y i ⟨i, w, rfl, hi, rfl, rfl, okw, hwl, k⟩
  refine cond_split (fun hc => ?_) (fun hc => ?_)
  · have hil : i < l := Int.ofNat_lt.1 (of_decide_eq_true hc)
    obtain ⟨bs, hbs⟩ : ∃ bs, raws[i]? = some bs := ⟨_, List.getElem?_eq_getElem (by have := rr.len; omega)⟩
    have hbl := hraw _ (List.mem_of_getElem? hbs)
    have hrl := roomB_len bs
    have raw : ∀ {h' : Heap} {K : Addr → Prop}, Ext h0 h' → (∀ ad (x : Option Addr) (cx : Nat), cellH h' ad = some (.slice x bs.length cx) → Sl h' x (bytesV bs) → bs.length ≤ cx → K ad) → VIdx a l (i : Int) 1 K := fun m q =>
      rr.one m (by omega) (by omega) fun ad z hz hcz hrd => by
        rw [Int.toNat_natCast, hbs] at hz
        have hz : bs = z.bs := Option.some.inj hz
        have hrd : Ro none_ h0 z.a (bytesV z.bs) ∧ z.bs.length ≤ z.c := hrd
        exact q ad z.a z.c (by rw [hz]; exact hcz 0 _ rfl) (by rw [hz]; exact (hrd.1.mod m).sl) (by rw [hz]; exact hrd.2)
    obtain ⟨⟨q, eq_⟩, har⟩ : ∃ ar, ar = askedR bs := ⟨_, rfl⟩
    obtain ⟨⟨u, eu_⟩, htr⟩ : ∃ tr, tr = toldR bs := ⟨_, rfl⟩
    have hqb : QuB q := by have := asked_b bs; rw [← har] at this; exact this
    have hub : UuB u := by have := told_b bs; rw [← htr] at this; exact this
    refine raw k.ext fun ad x cx hcd hsl hxc => ⟨_, _, _, hcd, ?_⟩
    refine CallsH.mono (roomy_spec hsl rfl (by omega)) ?_
    rintro _ h111 ⟨a112, c112, rfl, kd⟩
    have k := k.add1 kd
    have hc112 := (St.vec (a := a112) k).1.le
    refine ⟨_, _, _, rfl, raw k.ext fun ad2 x2 cx2 hcd2 hsl2 hxc2 => ⟨_, _, _, hcd2, front rfl rfl (by omega) hc112 ?_⟩⟩
    refine CallsH.mono (asked_spec (hw.at k.ext hf) (hs.at k.ext hf) (room_sl (k.sl (a := a112))) rfl (by omega)) ?_
    rintro _ h117 ⟨na, nc, ea, ec, rfl, kq⟩
    rw [← har] at kq ⊢
    have k := St.close (L := [_, _]) (k.add2 kq)
    refine ⟨_, _, _, _, _, _, _, _, _, _, _, rfl, k.vnew fun b125 h126 k => k.vall (by rfl) (by rfl) fun h127 k => ?_⟩
    refine raw k.ext fun ad3 x3 cx3 hcd3 hsl3 hxc3 => ⟨_, _, _, hcd3, front rfl rfl (by omega) hc112 ?_⟩
    have s3 : Sl h127 a112 (bytesV (roomB bs)) := k.pull2.sl (a := a112)
    refine CallsH.mono (told_spec (room_sl s3) rfl (by omega)) ?_
    rintro _ h132 ⟨ga, gc, ha, hc', nb, nd, ra, rc, rfl, ku⟩
    rw [← htr] at ku ⊢
    have k := St.close (L := [_, _, _, _]) (k.add ku)
    refine ⟨_, _, _, _, _, _, _, _, _, _, _, _, _, _, _, _, _, _, _, _, _, rfl, k.vnew fun b146 h147 k => k.vall (by rfl) (by rfl) fun h148 k => ?_⟩
    refine raw k.ext fun ad4 x4 cx4 hcd4 hsl4 hxc4 => ⟨_, _, _, hcd4, ?_⟩
    refine CallsH.mono (asked_spec (hw.at k.ext hf) (hs.at k.ext hf) hsl4 rfl hxc4) ?_
    rintro _ h152 ⟨na2, nc2, ea2, ec2, rfl, kq⟩
    rw [← har] at kq ⊢
    have k := St.close (L := [_, _]) (k.add2 kq)
    refine ⟨_, _, _, _, _, _, _, _, _, _, _, rfl, k.vnew fun b160 h161 k => k.vall (by rfl) (by rfl) fun h162 k => ?_⟩
    refine raw k.ext fun ad5 x5 cx5 hcd5 hsl5 hxc5 => ⟨_, _, _, hcd5, ?_⟩
    refine CallsH.mono (told_spec hsl5 rfl hxc5) ?_
    rintro _ h166 ⟨ga2, gc2, ha2, hc2, nb2, nd2, ra2, rc2, rfl, ku⟩
    rw [← htr] at ku ⊢
    have k := St.close (L := [_, _, _, _]) (k.add ku)
    refine ⟨_, _, _, _, _, _, _, _, _, _, _, _, _, _, _, _, _, _, _, _, _, rfl, k.vnew fun b180 h181 k => k.vall (by rfl) (by rfl) fun h182 k => ?_⟩
    have k : St none_ h0 h182 [A.blk b180 (rpV u ga2 gc2 ha2 hc2 nb2 nd2 ra2 rc2).toArray 65, tellE.own ⟨u, ga2, gc2, ha2, hc2, nb2, nd2, ra2, rc2⟩, A.blk b160 (rqV q na2 nc2 ea2 ec2).toArray 57, askE.own ⟨q, na2, nc2, ea2, ec2⟩, A.blk b146 (rpV u ga gc ha hc' nb nd ra rc).toArray 65, tellE.own ⟨u, ga, gc, ha, hc', nb, nd, ra, rc⟩, A.blk b125 (rqV q na nc ea ec).toArray 57, askE.own ⟨q, na, nc, ea, ec⟩, BV a112 (roomB bs).length c112 (roomB bs), Ls b99 w, Bk b19 m n] := k
    refine cond_false (by simp) (cond_false (by simp) ⟨_, k.rd (by rfl), _, k.rd (by rfl), _, k.rd (by rfl), _, k.rd (by rfl), _, _, _, k.rd (by rfl), _, _, _, k.rd (by rfl), _, k.rd (by rfl), _, k.rd (by rfl), _, k.rd (by rfl), _, k.rd (by rfl), _, _, _, k.rd (by rfl), _, _, _, k.rd (by rfl), ?_⟩)
    have rq1 : RqRo none_ h182 q na ea := rdQ (k.sel 11 [7, 0, 1, 2, 3, 4, 5, 6, 8, 9, 10] rfl (by decide) (L' := [askE.own ⟨q, na, nc, ea, ec⟩, _, _, _, _, _, _, _, _, _, _]) (by rfl))
    have rq2 : RqRo none_ h182 q na2 ea2 := rdQ (k.sel 11 [3, 0, 1, 2, 4, 5, 6, 7, 8, 9, 10] rfl (by decide) (L' := [askE.own ⟨q, na2, nc2, ea2, ec2⟩, _, _, _, _, _, _, _, _, _, _]) (by rfl))
    refine CallsH.mono (requests_eq rq1 rq2 (by have := hqb.n; omega) (by have := hqb.ev; omega) fun x hx => by have := hqb.vs x hx; omega) ?_
    rintro _ h196 ⟨rfl, mx⟩
    have k := k.next mx
    refine ⟨_, rfl, ?_⟩
    rw [decide_eq_true rfl]
    refine cond_false rfl ⟨_, k.rd (by rfl), _, k.rd (by rfl), _, k.rd (by rfl), _, k.rd (by rfl), _, _, _, k.rd (by rfl), _, _, _, k.rd (by rfl), _, _, _, k.rd (by rfl), _, _, _, k.rd (by rfl), _, k.rd (by rfl), _, k.rd (by rfl), _, k.rd (by rfl), _, k.rd (by rfl), _, k.rd (by rfl), _, k.rd (by rfl), _, k.rd (by rfl), _, k.rd (by rfl), _, _, _, k.rd (by rfl), _, _, _, k.rd (by rfl), _, _, _, k.rd (by rfl), _, _, _, k.rd (by rfl), _, k.rd (by rfl), _, k.rd (by rfl), _, k.rd (by rfl), _, k.rd (by rfl), ?_⟩
    have ru1 : RpRo none_ h196 u ga ha nb ra := rdU (k.sel 11 [5, 0, 1, 2, 3, 4, 6, 7, 8, 9, 10] rfl (by decide) (L' := [tellE.own ⟨u, ga, gc, ha, hc', nb, nd, ra, rc⟩, _, _, _, _, _, _, _, _, _, _]) (by rfl))
    have ru2 : RpRo none_ h196 u ga2 ha2 nb2 ra2 := rdU (k.sel 11 [1, 0, 2, 3, 4, 5, 6, 7, 8, 9, 10] rfl (by decide) (L' := [tellE.own ⟨u, ga2, gc2, ha2, hc2, nb2, nd2, ra2, rc2⟩, _, _, _, _, _, _, _, _, _, _]) (by rfl))
    refine CallsH.mono (replies_eq ru1 ru2 (rpSz hub)) ?_
    rintro _ h223 ⟨rfl, mx⟩
    have k := k.next mx
    refine ⟨_, rfl, ?_⟩
    rw [decide_eq_true rfl]
    refine cond_false rfl ⟨_, k.rd (by rfl), _, k.rd (by rfl), _, k.rd (by rfl), _, k.rd (by rfl), _, _, _, k.rd (by rfl), _, _, _, k.rd (by rfl), _, k.rd (by rfl), _, k.rd (by rfl), _, k.rd (by rfl), _, k.rd (by rfl), _, _, _, k.rd (by rfl), _, _, _, k.rd (by rfl), _, _, _, k.rd (by rfl), _, _, _, k.rd (by rfl), _, k.rd (by rfl), _, k.rd (by rfl), _, k.rd (by rfl), _, k.rd (by rfl), ?_⟩
    -- taken
    have k := k.sel 11 [5, 7, 9, 0, 1, 2, 3, 4, 6, 8, 10] rfl (by decide) (L' := [tellE.own ⟨u, ga, gc, ha, hc', nb, nd, ra, rc⟩, askE.own ⟨q, na, nc, ea, ec⟩, Ls b99 w, A.blk b180 (rpV u ga2 gc2 ha2 hc2 nb2 nd2 ra2 rc2).toArray 65, tellE.own ⟨u, ga2, gc2, ha2, hc2, nb2, nd2, ra2, rc2⟩, A.blk b160 (rqV q na2 nc2 ea2 ec2).toArray 57, askE.own ⟨q, na2, nc2, ea2, ec2⟩, A.blk b146 (rpV u ga gc ha hc' nb nd ra rc).toArray 65, A.blk b125 (rqV q na nc ea ec).toArray 57, BV a112 (roomB bs).length c112 (roomB bs), Bk b19 m n]) (by rfl)
    have k := St.open (L := [errE.L ga u.errs.length gc u.errs, hitE.L ha u.hits.length hc' u.hits, texE.L nb u.names.length nd u.names, rowE.L ra u.rows.length rc u.rows]) k
    have k := St.open (L := [texE.L na q.names.length nc q.names, evE.L ea q.evs.length ec q.evs]) k.pull4
    have k := St.open (L := ListsL b99 w) k.pull6
    obtain ⟨F', G, kF, kG, d, hF, back⟩ := St.frame (L := ListsL b99 w ++ TkL q u na nc ea ec ga gc ha hc' nb nd ra rc) k
    have b1 := hqb.ev
    have b2 := hub.hi
    have b3 := hub.ro
    obtain ⟨y0, hy0⟩ : ∃ y, y = i * 400000 := ⟨_, rfl⟩
    have b4 : y0 ≤ 104857600000 := by omega
    have b5 : (i + 1) * 400000 = y0 + 400000 := by omega
    rw [← hy0] at hwl
    have b6 : y0 + 2 * (q.evs.length + u.hits.length + u.rows.length) + 4 ≤ 4398046511104 := by
      clear hy0 b5
      omega
    refine CallsH.mono (take_spec okw kF (tkB hqb hub) hwl b6) ?_
    rintro _ h242 ⟨rfl, w', okw', hwl', k2⟩
    have k := St.close (L := ListsL b99 w') (back (L' := ListsL b99 w') k2)
    clear back kF kG d hF
    have hwl'' : LkL w' ((i + 1) * 400000) := ⟨by have := hwl'.x0; omega, by have := hwl'.x1; omega, by have := hwl'.x2; omega⟩
    have k : St none_ h0 h242 [Ls b99 w', A.blk b180 (rpV u ga2 gc2 ha2 hc2 nb2 nd2 ra2 rc2).toArray 65, tellE.own ⟨u, ga2, gc2, ha2, hc2, nb2, nd2, ra2, rc2⟩, A.blk b160 (rqV q na2 nc2 ea2 ec2).toArray 57, askE.own ⟨q, na2, nc2, ea2, ec2⟩, A.blk b146 (rpV u ga gc ha hc' nb nd ra rc).toArray 65, A.blk b125 (rqV q na nc ea ec).toArray 57, BV a112 (roomB bs).length c112 (roomB bs), Bk b19 m n] := k
    have k := keep (L := [_, _, _, _, _, _, _]) (R := [_, _]) (k.sel 9 [0, 1, 2, 3, 4, 7, 8, 5, 6] rfl (by decide) (L' := [Ls b99 w', A.blk b180 (rpV u ga2 gc2 ha2 hc2 nb2 nd2 ra2 rc2).toArray 65, tellE.own ⟨u, ga2, gc2, ha2, hc2, nb2, nd2, ra2, rc2⟩, A.blk b160 (rqV q na2 nc2 ea2 ec2).toArray 57, askE.own ⟨q, na2, nc2, ea2, ec2⟩, BV a112 (roomB bs).length c112 (roomB bs), Bk b19 m n, _, _]) (by rfl))
    -- read once more
    refine ⟨rfl, raw k.ext fun ad6 x6 cx6 hcd6 hsl6 hxc6 => ⟨_, _, _, hcd6, ?_⟩⟩
    refine CallsH.mono (asked_spec (hw.at k.ext hf) (hs.at k.ext hf) hsl6 rfl hxc6) ?_
    rintro _ h250 ⟨na3, nc3, ea3, ec3, rfl, kq⟩
    rw [← har] at kq ⊢
    have k := St.close (L := [_, _]) (k.add2 kq)
    refine ⟨_, _, _, _, _, _, _, _, _, _, _, rfl, k.vnew fun b256 h257 k => k.vall (by rfl) (by rfl) fun h258 k => ?_⟩
    refine raw k.ext fun ad7 x7 cx7 hcd7 hsl7 hxc7 => ⟨_, _, _, hcd7, ?_⟩
    refine CallsH.mono (told_spec hsl7 rfl hxc7) ?_
    rintro _ h262 ⟨ga3, gc3, ha3, hc3, nb3, nd3, ra3, rc3, rfl, ku⟩
    rw [← htr] at ku ⊢
    have k := St.close (L := [_, _, _, _]) (k.add ku)
    refine ⟨_, _, _, _, _, _, _, _, _, _, _, _, _, _, _, _, _, _, _, _, _, rfl, k.vnew fun b276 h277 k => k.vall (by rfl) (by rfl) fun h278 k => ?_⟩
    -- [b276, y4, b256, y2, Ls, b180, r2, b160, p, BV, Bk]
    have k : St none_ h0 h278 [Ls b99 w', Bk b19 m n, A.blk b180 (rpV u ga2 gc2 ha2 hc2 nb2 nd2 ra2 rc2).toArray 65, tellE.own ⟨u, ga2, gc2, ha2, hc2, nb2, nd2, ra2, rc2⟩, A.blk b160 (rqV q na2 nc2 ea2 ec2).toArray 57, askE.own ⟨q, na2, nc2, ea2, ec2⟩, A.blk b276 (rpV u ga3 gc3 ha3 hc3 nb3 nd3 ra3 rc3).toArray 65, tellE.own ⟨u, ga3, gc3, ha3, hc3, nb3, nd3, ra3, rc3⟩, A.blk b256 (rqV q na3 nc3 ea3 ec3).toArray 57, askE.own ⟨q, na3, nc3, ea3, ec3⟩, BV a112 (roomB bs).length c112 (roomB bs)] :=
      k.sel 11 [4, 10, 5, 6, 7, 8, 0, 1, 2, 3, 9] rfl (by decide) (by rfl)
    have wh : ∀ {h' : Heap}, St none_ h0 h' [Ls b99 w', Bk b19 m n, A.blk b180 (rpV u ga2 gc2 ha2 hc2 nb2 nd2 ra2 rc2).toArray 65, tellE.own ⟨u, ga2, gc2, ha2, hc2, nb2, nd2, ra2, rc2⟩, A.blk b160 (rqV q na2 nc2 ea2 ec2).toArray 57, askE.own ⟨q, na2, nc2, ea2, ec2⟩, A.blk b276 (rpV u ga3 gc3 ha3 hc3 nb3 nd3 ra3 rc3).toArray 65, tellE.own ⟨u, ga3, gc3, ha3, hc3, nb3, nd3, ra3, rc3⟩, A.blk b256 (rqV q na3 nc3 ea3 ec3).toArray 57, askE.own ⟨q, na3, nc3, ea3, ec3⟩, BV a112 (roomB bs).length c112 (roomB bs)] → LkR h' b99 w' := fun k =>
      okw'.r (St.open (L := ListsL b99 w') k) hwl'' (by omega)
    refine cond_split (fun _ => ?_) (fun _ => ⟨by decide, cond_split (fun _ => ?_) (fun _ => ?_)⟩)
    · refine CallsH.mono (lwhole_spec (wh k)) ?_
      rintro _ h280 ⟨rfl, mx⟩
      have k := k.next mx
      refine ⟨_, rfl, cond_false rfl ?_⟩
      refine cond_false (by simp) (cond_false (by simp) ⟨_, k.rd (by rfl), _, k.rd (by rfl), _, k.rd (by rfl), _, k.rd (by rfl), _, _, _, k.rd (by rfl), _, _, _, k.rd (by rfl), _, k.rd (by rfl), _, k.rd (by rfl), _, k.rd (by rfl), _, k.rd (by rfl), _, _, _, k.rd (by rfl), _, _, _, k.rd (by rfl), ?_⟩)
      have ry : RqRo none_ _ q na3 ea3 := rdQ (k.sel 11 [9, 0, 1, 2, 3, 4, 5, 6, 7, 8, 10] rfl (by decide) (L' := [askE.own ⟨q, na3, nc3, ea3, ec3⟩, _, _, _, _, _, _, _, _, _, _]) (by rfl))
      have rp2 : RqRo none_ _ q na2 ea2 := rdQ (k.sel 11 [5, 0, 1, 2, 3, 4, 6, 7, 8, 9, 10] rfl (by decide) (L' := [askE.own ⟨q, na2, nc2, ea2, ec2⟩, _, _, _, _, _, _, _, _, _, _]) (by rfl))
      refine CallsH.mono (requests_eq ry rp2 (by have := hqb.n; omega) (by have := hqb.ev; omega) fun x hx => by have := hqb.vs x hx; omega) ?_
      rintro _ h295 ⟨rfl, mx⟩
      have k := k.next mx
      refine ⟨_, rfl, ?_⟩
      rw [decide_eq_true rfl]
      refine cond_false rfl ⟨_, k.rd (by rfl), _, k.rd (by rfl), _, k.rd (by rfl), _, k.rd (by rfl), _, _, _, k.rd (by rfl), _, _, _, k.rd (by rfl), _, _, _, k.rd (by rfl), _, _, _, k.rd (by rfl), _, k.rd (by rfl), _, k.rd (by rfl), _, k.rd (by rfl), _, k.rd (by rfl), _, k.rd (by rfl), _, k.rd (by rfl), _, k.rd (by rfl), _, k.rd (by rfl), _, _, _, k.rd (by rfl), _, _, _, k.rd (by rfl), _, _, _, k.rd (by rfl), _, _, _, k.rd (by rfl), _, k.rd (by rfl), _, k.rd (by rfl), _, k.rd (by rfl), _, k.rd (by rfl), ?_⟩
      have rz : RpRo none_ _ u ga3 ha3 nb3 ra3 := rdU (k.sel 11 [7, 0, 1, 2, 3, 4, 5, 6, 8, 9, 10] rfl (by decide) (L' := [tellE.own ⟨u, ga3, gc3, ha3, hc3, nb3, nd3, ra3, rc3⟩, _, _, _, _, _, _, _, _, _, _]) (by rfl))
      have rx2 : RpRo none_ _ u ga2 ha2 nb2 ra2 := rdU (k.sel 11 [3, 0, 1, 2, 4, 5, 6, 7, 8, 9, 10] rfl (by decide) (L' := [tellE.own ⟨u, ga2, gc2, ha2, hc2, nb2, nd2, ra2, rc2⟩, _, _, _, _, _, _, _, _, _, _]) (by rfl))
      refine CallsH.mono (replies_eq rz rx2 (rpSz hub)) ?_
      rintro _ h322 ⟨rfl, mx⟩
      have k := k.next mx
      refine ⟨_, rfl, ?_⟩
      rw [decide_eq_true rfl]
      refine cond_false rfl (raw k.ext fun ad8 x8 cx8 hcd8 hsl8 hxc8 => ⟨_, _, _, hcd8, ?_⟩)
      refine CallsH.mono (roomy_spec hsl8 rfl (by omega)) ?_
      rintro _ h327 ⟨a328, c328, rfl, kd⟩
      have k := k.add1 kd
      have s2 : Sl h327 a328 (bytesV (roomB bs)) := k.sl (a := a328)
      have s1 : Sl h327 a112 (bytesV (roomB bs)) := (k.sel 12 [11, 0, 1, 2, 3, 4, 5, 6, 7, 8, 9, 10] rfl (by decide) (L' := [BV a112 (roomB bs).length c112 (roomB bs), _, _, _, _, _, _, _, _, _, _, _]) (by rfl)).sl (a := a112)
      refine ⟨_, _, _, rfl, ?_⟩
      refine CallsH.mono (same_spec s1 rfl s2 rfl (by omega)) ?_
      rintro _ _ ⟨rfl, rfl⟩
      refine ⟨_, rfl, ?_⟩
      rw [decide_eq_true rfl]
      exact cond_false rfl ⟨l - (i + 1), by omega, i + 1, w', wrap_nat hil (by omega), hil, rfl, rfl, okw', hwl'', keep (L := [_, _]) (R := [_, _, _, _, _, _, _, _, _]) k.drop⟩
    · refine CallsH.mono (lwhole_spec (wh k)) ?_
      rintro _ h280 ⟨rfl, mx⟩
      have k := k.next mx
      refine ⟨_, rfl, cond_false rfl ?_⟩
      refine cond_false (by simp) (cond_false (by simp) ⟨_, k.rd (by rfl), _, k.rd (by rfl), _, k.rd (by rfl), _, k.rd (by rfl), _, _, _, k.rd (by rfl), _, _, _, k.rd (by rfl), _, k.rd (by rfl), _, k.rd (by rfl), _, k.rd (by rfl), _, k.rd (by rfl), _, _, _, k.rd (by rfl), _, _, _, k.rd (by rfl), ?_⟩)
      have ry : RqRo none_ _ q na3 ea3 := rdQ (k.sel 11 [9, 0, 1, 2, 3, 4, 5, 6, 7, 8, 10] rfl (by decide) (L' := [askE.own ⟨q, na3, nc3, ea3, ec3⟩, _, _, _, _, _, _, _, _, _, _]) (by rfl))
      have rp2 : RqRo none_ _ q na2 ea2 := rdQ (k.sel 11 [5, 0, 1, 2, 3, 4, 6, 7, 8, 9, 10] rfl (by decide) (L' := [askE.own ⟨q, na2, nc2, ea2, ec2⟩, _, _, _, _, _, _, _, _, _, _]) (by rfl))
      refine CallsH.mono (requests_eq ry rp2 (by have := hqb.n; omega) (by have := hqb.ev; omega) fun x hx => by have := hqb.vs x hx; omega) ?_
      rintro _ h295 ⟨rfl, mx⟩
      have k := k.next mx
      refine ⟨_, rfl, ?_⟩
      rw [decide_eq_true rfl]
      refine cond_false rfl ⟨_, k.rd (by rfl), _, k.rd (by rfl), _, k.rd (by rfl), _, k.rd (by rfl), _, _, _, k.rd (by rfl), _, _, _, k.rd (by rfl), _, _, _, k.rd (by rfl), _, _, _, k.rd (by rfl), _, k.rd (by rfl), _, k.rd (by rfl), _, k.rd (by rfl), _, k.rd (by rfl), _, k.rd (by rfl), _, k.rd (by rfl), _, k.rd (by rfl), _, k.rd (by rfl), _, _, _, k.rd (by rfl), _, _, _, k.rd (by rfl), _, _, _, k.rd (by rfl), _, _, _, k.rd (by rfl), _, k.rd (by rfl), _, k.rd (by rfl), _, k.rd (by rfl), _, k.rd (by rfl), ?_⟩
      have rz : RpRo none_ _ u ga3 ha3 nb3 ra3 := rdU (k.sel 11 [7, 0, 1, 2, 3, 4, 5, 6, 8, 9, 10] rfl (by decide) (L' := [tellE.own ⟨u, ga3, gc3, ha3, hc3, nb3, nd3, ra3, rc3⟩, _, _, _, _, _, _, _, _, _, _]) (by rfl))
      have rx2 : RpRo none_ _ u ga2 ha2 nb2 ra2 := rdU (k.sel 11 [3, 0, 1, 2, 4, 5, 6, 7, 8, 9, 10] rfl (by decide) (L' := [tellE.own ⟨u, ga2, gc2, ha2, hc2, nb2, nd2, ra2, rc2⟩, _, _, _, _, _, _, _, _, _, _]) (by rfl))
      refine CallsH.mono (replies_eq rz rx2 (rpSz hub)) ?_
      rintro _ h322 ⟨rfl, mx⟩
      have k := k.next mx
      refine ⟨_, rfl, ?_⟩
      rw [decide_eq_true rfl]
      refine cond_false rfl (raw k.ext fun ad8 x8 cx8 hcd8 hsl8 hxc8 => ⟨_, _, _, hcd8, ?_⟩)
      refine CallsH.mono (roomy_spec hsl8 rfl (by omega)) ?_
      rintro _ h327 ⟨a328, c328, rfl, kd⟩
      have k := k.add1 kd
      have s2 : Sl h327 a328 (bytesV (roomB bs)) := k.sl (a := a328)
      have s1 : Sl h327 a112 (bytesV (roomB bs)) := (k.sel 12 [11, 0, 1, 2, 3, 4, 5, 6, 7, 8, 9, 10] rfl (by decide) (L' := [BV a112 (roomB bs).length c112 (roomB bs), _, _, _, _, _, _, _, _, _, _, _]) (by rfl)).sl (a := a112)
      refine ⟨_, _, _, rfl, ?_⟩
      refine CallsH.mono (same_spec s1 rfl s2 rfl (by omega)) ?_
      rintro _ _ ⟨rfl, rfl⟩
      refine ⟨_, rfl, ?_⟩
      rw [decide_eq_true rfl]
      exact cond_false rfl ⟨l - (i + 1), by omega, i + 1, w', wrap_nat hil (by omega), hil, rfl, rfl, okw', hwl'', keep (L := [_, _]) (R := [_, _, _, _, _, _, _, _, _]) k.drop⟩
    · skip
      refine cond_false (by simp) (cond_false (by simp) ⟨_, k.rd (by rfl), _, k.rd (by rfl), _, k.rd (by rfl), _, k.rd (by rfl), _, _, _, k.rd (by rfl), _, _, _, k.rd (by rfl), _, k.rd (by rfl), _, k.rd (by rfl), _, k.rd (by rfl), _, k.rd (by rfl), _, _, _, k.rd (by rfl), _, _, _, k.rd (by rfl), ?_⟩)
      have ry : RqRo none_ _ q na3 ea3 := rdQ (k.sel 11 [9, 0, 1, 2, 3, 4, 5, 6, 7, 8, 10] rfl (by decide) (L' := [askE.own ⟨q, na3, nc3, ea3, ec3⟩, _, _, _, _, _, _, _, _, _, _]) (by rfl))
      have rp2 : RqRo none_ _ q na2 ea2 := rdQ (k.sel 11 [5, 0, 1, 2, 3, 4, 6, 7, 8, 9, 10] rfl (by decide) (L' := [askE.own ⟨q, na2, nc2, ea2, ec2⟩, _, _, _, _, _, _, _, _, _, _]) (by rfl))
      refine CallsH.mono (requests_eq ry rp2 (by have := hqb.n; omega) (by have := hqb.ev; omega) fun x hx => by have := hqb.vs x hx; omega) ?_
      rintro _ h295 ⟨rfl, mx⟩
      have k := k.next mx
      refine ⟨_, rfl, ?_⟩
      rw [decide_eq_true rfl]
      refine cond_false rfl ⟨_, k.rd (by rfl), _, k.rd (by rfl), _, k.rd (by rfl), _, k.rd (by rfl), _, _, _, k.rd (by rfl), _, _, _, k.rd (by rfl), _, _, _, k.rd (by rfl), _, _, _, k.rd (by rfl), _, k.rd (by rfl), _, k.rd (by rfl), _, k.rd (by rfl), _, k.rd (by rfl), _, k.rd (by rfl), _, k.rd (by rfl), _, k.rd (by rfl), _, k.rd (by rfl), _, _, _, k.rd (by rfl), _, _, _, k.rd (by rfl), _, _, _, k.rd (by rfl), _, _, _, k.rd (by rfl), _, k.rd (by rfl), _, k.rd (by rfl), _, k.rd (by rfl), _, k.rd (by rfl), ?_⟩
      have rz : RpRo none_ _ u ga3 ha3 nb3 ra3 := rdU (k.sel 11 [7, 0, 1, 2, 3, 4, 5, 6, 8, 9, 10] rfl (by decide) (L' := [tellE.own ⟨u, ga3, gc3, ha3, hc3, nb3, nd3, ra3, rc3⟩, _, _, _, _, _, _, _, _, _, _]) (by rfl))
      have rx2 : RpRo none_ _ u ga2 ha2 nb2 ra2 := rdU (k.sel 11 [3, 0, 1, 2, 4, 5, 6, 7, 8, 9, 10] rfl (by decide) (L' := [tellE.own ⟨u, ga2, gc2, ha2, hc2, nb2, nd2, ra2, rc2⟩, _, _, _, _, _, _, _, _, _, _]) (by rfl))
      refine CallsH.mono (replies_eq rz rx2 (rpSz hub)) ?_
      rintro _ h322 ⟨rfl, mx⟩
      have k := k.next mx
      refine ⟨_, rfl, ?_⟩
      rw [decide_eq_true rfl]
      refine cond_false rfl (raw k.ext fun ad8 x8 cx8 hcd8 hsl8 hxc8 => ⟨_, _, _, hcd8, ?_⟩)
      refine CallsH.mono (roomy_spec hsl8 rfl (by omega)) ?_
      rintro _ h327 ⟨a328, c328, rfl, kd⟩
      have k := k.add1 kd
      have s2 : Sl h327 a328 (bytesV (roomB bs)) := k.sl (a := a328)
      have s1 : Sl h327 a112 (bytesV (roomB bs)) := (k.sel 12 [11, 0, 1, 2, 3, 4, 5, 6, 7, 8, 9, 10] rfl (by decide) (L' := [BV a112 (roomB bs).length c112 (roomB bs), _, _, _, _, _, _, _, _, _, _, _]) (by rfl)).sl (a := a112)
      refine ⟨_, _, _, rfl, ?_⟩
      refine CallsH.mono (same_spec s1 rfl s2 rfl (by omega)) ?_
      rintro _ _ ⟨rfl, rfl⟩
      refine ⟨_, rfl, ?_⟩
      rw [decide_eq_true rfl]
      exact cond_false rfl ⟨l - (i + 1), by omega, i + 1, w', wrap_nat hil (by omega), hil, rfl, rfl, okw', hwl'', keep (L := [_, _]) (R := [_, _, _, _, _, _, _, _, _]) k.drop⟩
  have hil : i = l := by
    have : ¬ (i : Int) < l := of_decide_eq_false hc
    omega
  subst hil
  have kb : St none_ h0 h103 [A.blk b19 #[hdV m, .int .i64 n] 35, hdA 36 m, BfK KdB m.bufs, Ls b99 w] := St.open (L := BookL b19 m n) k.pull1
  have cr : ColR KdB 3 h103 m := ok.r (e := 36) kb.pull1 (kb.pull2) (by omega)
  refine CallsH.mono (bwhole_spec cr (kb.rd (by rfl))) ?_
  rintro _ _ ⟨rfl, rfl⟩
  refine ⟨_, rfl, cond_true rfl ?_⟩
  refine CallsH.mono (lwhole_spec (okw.r (St.open (L := ListsL b99 w) k) hwl (by omega))) ?_
  rintro _ h439 ⟨rfl, mx⟩
  exact ⟨_, rfl, rfl, (k.next mx).ext⟩
end Go.Proofs.YtgdgebmlcgohhaaGreatDoor.F
