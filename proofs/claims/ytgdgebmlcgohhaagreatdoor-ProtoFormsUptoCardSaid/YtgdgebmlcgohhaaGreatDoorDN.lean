/- Replies and payloads: the document's answers; the law. Conditions: none. -/
import Derived.Test.YtgdgebmlcgohhaaGreatDoorDM
namespace Go.Proofs.YtgdgebmlcgohhaaGreatDoor.F
open Go Go.VC Go.Proofs
set_option linter.unusedSimpArgs false
set_option linter.unusedVariables false
set_option maxRecDepth 100000
attribute [local irreducible] CallsH RunsTo PureTo

variable {S F G : Nat → Prop} {h0 h h1 : Heap} {L R L' : List A} {a x y ga ha na ra ea te tn th tr tv : Option Addr} {l c b n gc hc nc rc ec ce cn ch cr cv : Nat} {vs : List Value} {u : Rp}
structure Sp where
  u : Rp
  ga : Option Addr
  gc : Nat
  ha : Option Addr
  hc : Nat
  na : Option Addr
  nc : Nat
  ra : Option Addr
  rc : Nat
abbrev rpE : El Rp := ⟨Sp, Sp.u, 65, 12, fun s => rpV s.u s.ga s.gc s.ha s.hc s.na s.nc s.ra s.rc, fun s => A.all [errE.L s.ga s.u.errs.length s.gc s.u.errs, hitE.L s.ha s.u.hits.length s.hc s.u.hits, texE.L s.na s.u.names.length s.nc s.u.names, rowE.L s.ra s.u.rows.length s.rc s.u.rows], fun _ => rfl, fun s v hv => by simp at hv; rcases hv with rfl | rfl | rfl | rfl | rfl | rfl | rfl | rfl | rfl | rfl | rfl | rfl <;> rfl, by omega,
  fun F h s => RpRo F h s.u s.ga s.ha s.na s.ra, fun r m hf => r.at m hf, fun {_ _ _ _ s} k => by
    have k := St.open (L := [errE.L s.ga s.u.errs.length s.gc s.u.errs, hitE.L s.ha s.u.hits.length s.hc s.u.hits, texE.L s.na s.u.names.length s.nc s.u.names, rowE.L s.ra s.u.rows.length s.rc s.u.rows]) k
    exact ⟨El.ro (E := errE) k, El.ro (E := hitE) k.drop, El.ro (E := texE) k.drop.drop, El.ro (E := rowE) k.drop.drop.drop⟩⟩
theorem putHW_pos (y : Hi) : 1 ≤ (putHW y).length := by unfold putHW; have := putS_pos y.q; rw [List.length_append]; omega
theorem encW_pos (v : Val) : 1 ≤ (encW v).length := by unfold encW; rw [List.length_cons]; omega
theorem RpOk.lens (ok : RpOk u) : RpB u := by
  have hbig := ok.big
  simp only [putW, List.length_append] at hbig
  have h1 := putL_ge putN_pos u.errs
  have h2 := putL_ge putHW_pos u.hits
  have h3 := putL_ge putS_pos u.names
  have h4 := putL_ge (putL_pos encW) u.rows
  have p2 : (putL putHW u.hits).length = (putN u.hits.length).length + (u.hits.flatMap putHW).length := by unfold putL; rw [List.length_append]
  have p4 : (putL (putL encW) u.rows).length = (putN u.rows.length).length + (u.rows.flatMap (putL encW)).length := by rw [← List.length_append]; rfl
  refine ⟨by omega, by omega, by omega, by omega, fun y hy => ?_, fun y hy => ?_⟩
  · have h5 := flat_mem (f := putHW) hy
    have h6 : (putHW y).length = (putS y.q).length + (putL encW y.row).length := by unfold putHW; rw [List.length_append]
    have h7 := putL_ge encW_pos y.row
    omega
  · have h5 := flat_mem (f := putL encW) hy
    have h7 := putL_ge encW_pos y
    omega
theorem told_sz (b : Bytes) : RpSz (toldR b).1 := by
  have z : RpSz noRp := ⟨by decide, by decide, by decide, by decide, (fun x hx => by cases hx), (fun x hx => by cases hx)⟩
  rcases told_err b with h | h | h
  · have h0 : toldR b = ((toldR b).1, 0) := by rw [← h]
    obtain ⟨_, h2, h3⟩ := told_ok.1 h0
    generalize (toldR b).1 = u at *
    rw [h2] at h3
    simp only [putP, List.length_append] at h3
    have h1 := putL_ge putN_pos u.errs
    have hp : ∀ y : Hi, 1 ≤ (putHi y).length := fun y => by unfold putHi; have := putS_pos y.q; rw [List.length_append]; omega
    have h2 := putL_ge hp u.hits
    have h3' := putL_ge putS_pos u.names
    have h4 := putL_ge (putL_pos encV) u.rows
    have p2 : (putL putHi u.hits).length = (putN u.hits.length).length + (u.hits.flatMap putHi).length := by unfold putL; rw [List.length_append]
    have p4 : (putL (putL encV) u.rows).length = (putN u.rows.length).length + (u.rows.flatMap (putL encV)).length := by rw [← List.length_append]; rfl
    refine ⟨by omega, by omega, by omega, by omega, fun y hy => ?_, fun y hy => ?_⟩
    · have h5 := flat_mem (f := putHi) hy
      have h6 : (putHi y).length = (putS y.q).length + (putL encV y.row).length := by unfold putHi; rw [List.length_append]
      have h7 := putL_ge encV_pos y.row
      omega
    · have h5 := flat_mem (f := putL encV) hy
      have h7 := putL_ge encV_pos y
      omega
  · rw [h]; exact z
  · rw [h]; exact z
set_option maxHeartbeats 8000000 in
theorem tells_spec {us : List Rp} {raws : List Bytes} {lr cr : Nat} (rs : RoX rpE none_ h a l us) (hok : ∀ u ∈ us, RpOk u) (rr : RoX bytC none_ h x lr raws) (hraw : ∀ b ∈ raws, b.length ≤ 1099511627776) (hl : l < 9223372036854775807) (hlr : lr < 9223372036854775807) :
    CallsH Tryz.prog 7 #[.slice a l c, .slice x lr cr] h (fun v h' => v = .bool true ∧ Ext h h') := by
  refine vf7 _ _ _ _ _ _ h _ ?_
  unfold F7
  refine ⟨fun m h' _ i => ∃ j : Nat, i = j ∧ j ≤ l ∧ m = l - j ∧ Ext h h', ⟨_, 0, rfl, Nat.zero_le _, rfl, Mod.refl _ h⟩, ?_⟩
  rintro m h3 _ y i ⟨j, rfl, hj, rfl, ex⟩
  refine cond_split (fun hcd => ?_) (fun hcd => ?_)
  · have hjl : j < l := Int.ofNat_lt.1 (of_decide_eq_true hcd)
    refine ⟨fun h' _ => Ext h h', ?_, fun h83 _ _ ex => ⟨l - (j + 1), by omega, j + 1, wrap_nat hjl (by omega), hjl, rfl, ex⟩⟩
    refine rs.one ex (by omega) (by omega) fun ad s hsj hcz hrd => ⟨_, hcz 0 _ rfl, _, hcz 1 _ rfl, _, hcz 2 _ rfl, _, hcz 3 _ rfl, _, _, _, hcz 4 _ rfl, _, _, _, hcz 5 _ rfl, _, _, _, hcz 6 _ rfl, _, _, _, hcz 7 _ rfl, _, hcz 8 _ rfl, _, hcz 9 _ rfl, _, hcz 10 _ rfl, _, hcz 11 _ rfl, ?_⟩
    rw [Int.toNat_natCast] at hsj
    have hrd : RpRo none_ h s.u s.ga s.ha s.na s.ra := hrd
    have ok : RpOk s.u := hok _ (List.mem_of_getElem? hsj)
    have B := ok.lens
    have bH := B.hits
    have bR := B.rows
    refine CallsH.mono (greatReply_spec (u := s.u) (by omega) (by omega) (hrd.at ex fun _ h => h.elim)) ?_
    rintro _ h17 ⟨b18, rfl, m1⟩
    have ex := ex.then m1
    refine ⟨_, rfl, ?_⟩
    cases b18
    rotate_left
    · exact cond_true rfl ex
    refine cond_false rfl ?_
    refine rs.one ex (by omega) (by omega) fun ad2 s2 hsj2 hcz2 hrd2 => ⟨_, hcz2 0 _ rfl, _, hcz2 1 _ rfl, _, hcz2 2 _ rfl, _, hcz2 3 _ rfl, _, _, _, hcz2 4 _ rfl, _, _, _, hcz2 5 _ rfl, _, _, _, hcz2 6 _ rfl, _, _, _, hcz2 7 _ rfl, _, hcz2 8 _ rfl, _, hcz2 9 _ rfl, _, hcz2 10 _ rfl, _, hcz2 11 _ rfl, ?_⟩
    rw [Int.toNat_natCast] at hsj2
    have e2 : s2.u = s.u := Option.some.inj (hsj2.symm.trans hsj)
    have hrd2 : RpRo none_ h s2.u s2.ga s2.ha s2.na s2.ra := hrd2
    rw [e2] at hrd2 ⊢
    refine CallsH.mono (taleOf_spec B (hrd2.at ex fun _ h => h.elim)) ?_
    rintro _ h39 ⟨bt, te, ce, tn, cn, th, ch, tr, cr', tv, cv, rfl, m2, ta⟩
    have ex := ex.then m2
    have tb := ta.blk
    refine ⟨_, rfl, VSome.mk ⟨_, Ro.cell tb (j := 0) rfl, _, Ro.cell tb (j := 1) rfl, _, Ro.cell tb (j := 2) rfl, _, Ro.cell tb (j := 3) rfl, _, _, _, Ro.cell tb (j := 4) rfl, _, _, _, Ro.cell tb (j := 5) rfl, _, _, _, Ro.cell tb (j := 6) rfl, _, _, _, Ro.cell tb (j := 7) rfl, _, Ro.cell tb (j := 8) rfl, _, Ro.cell tb (j := 9) rfl, _, Ro.cell tb (j := 10) rfl, _, Ro.cell tb (j := 11) rfl, ?_⟩⟩
    refine CallsH.mono (tell_spec (q := s.u) ok ta.ro) ?_
    rintro _ h55 ⟨x56, c56, rfl, k⟩
    refine ⟨_, _, _, _, rfl, ?_⟩
    refine rs.one (ex.then k.ext) (by omega) (by omega) fun ad3 s3 hsj3 hcz3 hrd3 => ⟨_, hcz3 0 _ rfl, _, hcz3 1 _ rfl, _, hcz3 2 _ rfl, _, hcz3 3 _ rfl, _, _, _, hcz3 4 _ rfl, _, _, _, hcz3 5 _ rfl, _, _, _, hcz3 6 _ rfl, _, _, _, hcz3 7 _ rfl, _, hcz3 8 _ rfl, _, hcz3 9 _ rfl, _, hcz3 10 _ rfl, _, hcz3 11 _ rfl, ?_⟩
    rw [Int.toNat_natCast] at hsj3
    have e3 : s3.u = s.u := Option.some.inj (hsj3.symm.trans hsj)
    have hrd3 : RpRo none_ h s3.u s3.ga s3.ha s3.na s3.ra := hrd3
    rw [e3] at hrd3 ⊢
    refine CallsH.mono (dtell_spec ok (hrd3.at (ex.then k.ext) fun _ h => h.elim)) ?_
    rintro _ h72 ⟨x73, c73, rfl, kd⟩
    have k := k.add1 kd
    have hal := tellR_len s.u
    refine ⟨_, _, _, _, rfl, cond_false (by simp) ?_⟩
    refine CallsH.mono (same_spec (bs := (tellR s.u).1) (cs := (tellR s.u).1) (k.sl (a := x56)) rfl (k.sl (a := x73)) rfl (by omega)) ?_
    rintro _ _ ⟨rfl, rfl⟩
    refine ⟨_, rfl, cond_false (by simp) ?_⟩
    refine rs.one (ex.then k.ext) (by omega) (by omega) fun ad4 s4 hsj4 hcz4 hrd4 => ⟨_, hcz4 0 _ rfl, _, hcz4 1 _ rfl, _, hcz4 2 _ rfl, _, hcz4 3 _ rfl, _, _, _, hcz4 4 _ rfl, _, _, _, hcz4 5 _ rfl, _, _, _, hcz4 6 _ rfl, _, _, _, hcz4 7 _ rfl, _, hcz4 8 _ rfl, _, hcz4 9 _ rfl, _, hcz4 10 _ rfl, _, hcz4 11 _ rfl, ?_⟩
    rw [Int.toNat_natCast] at hsj4
    have e4 : s4.u = s.u := Option.some.inj (hsj4.symm.trans hsj)
    have hrd4 : RpRo none_ h s4.u s4.ga s4.ha s4.na s4.ra := hrd4
    rw [e4] at hrd4 ⊢
    refine CallsH.mono (tkept_spec B (ta.at k.ext) (hrd4.at (ex.then k.ext) fun _ h => h.elim)) ?_
    rintro _ h92 ⟨rfl, m5⟩
    exact ⟨_, rfl, cond_false rfl ((ex.then k.ext).then m5)⟩
  clear hcd hj
  refine ⟨fun m h' _ i => ∃ j : Nat, i = j ∧ j ≤ lr ∧ m = lr - j ∧ Ext h h', ⟨_, 0, rfl, Nat.zero_le _, rfl, ex⟩, ?_⟩
  clear ex
  rintro m h99 _ y i ⟨j, rfl, hj, rfl, ex⟩
  refine cond_split (fun hcd => ?_) (fun hcd => ⟨rfl, ex⟩)
  have hjl : j < lr := Int.ofNat_lt.1 (of_decide_eq_true hcd)
  refine rr.one ex (by omega) (by omega) fun ad s hsj hcz hrd => ⟨_, _, _, hcz 0 _ rfl, ?_⟩
  rw [Int.toNat_natCast] at hsj
  have hrd : Ro none_ h s.a (bytesV s.bs) := hrd.1
  have hsl : s.bs.length ≤ 1099511627776 := hraw _ (List.mem_of_getElem? hsj)
  refine CallsH.mono (roomy_spec (bs := s.bs) (hrd.mod ex).sl rfl hsl) ?_
  rintro _ h107 ⟨a108, c108, rfl, k⟩
  have hrl := roomB_len s.bs
  have hle := (St.vec (a := a108) k).1.le
  refine ⟨_, _, _, rfl, ?_⟩
  refine rr.one (ex.then k.ext) (by omega) (by omega) fun ad2 s2 hsj2 hcz2 hrd2 => ⟨_, _, _, hcz2 0 _ rfl, ?_⟩
  rw [Int.toNat_natCast] at hsj2
  have e2 : s2.bs = s.bs := Option.some.inj (hsj2.symm.trans hsj)
  rw [e2]
  refine vfront rfl rfl (by omega) hle ?_
  obtain ⟨ms, hms⟩ := room_pre s.bs
  have hpre : Sl h107 a108 (bytesV s.bs) := by
    have r := (k.sl (a := a108)).ro
    rw [hms, bytesV_app] at r
    exact r.pre.sl
  refine CallsH.mono (told_spec (bs := s.bs) hpre rfl (by omega)) ?_
  rintro _ h113 ⟨ga1, gc1, ha1, hc1, na1, nc1, ra1, rc1, rfl, kd⟩
  have k := k.add kd
  refine ⟨_, _, _, _, _, _, _, _, _, _, _, _, _, _, _, _, _, _, _, _, _, rfl, k.vnew fun b127 h128 k => k.vall (by rfl) (by rfl) fun h129 k => ?_⟩
  refine rr.one (ex.then k.ext) (by omega) (by omega) fun ad3 s3 hsj3 hcz3 hrd3 => ⟨_, _, _, hcz3 0 _ rfl, ?_⟩
  rw [Int.toNat_natCast] at hsj3
  have e3 : s3.bs = s.bs := Option.some.inj (hsj3.symm.trans hsj)
  have hrd3 : Ro none_ h s3.a (bytesV s3.bs) ∧ s3.bs.length ≤ s3.c := hrd3
  rw [e3] at hrd3 ⊢
  refine CallsH.mono (dtold_spec (bs := s.bs) (hrd3.1.mod (ex.then k.ext)).sl rfl hrd3.2) ?_
  rintro _ h133 ⟨ga2, gc2, ha2, hc2, na2, nc2, ra2, rc2, rfl, kd⟩
  have k := k.add kd
  have sz := told_sz s.bs
  refine ⟨_, _, _, _, _, _, _, _, _, _, _, _, _, _, _, _, _, _, _, _, _, rfl, k.vnew fun b147 h148 k => k.vall (by rfl) (by rfl) fun h149 k => cond_false (by simp) ?_⟩
  generalize toldR s.bs = tr0 at *
  have k : St none_ h99 h149 [A.blk b147 (rpV tr0.1 ga2 gc2 ha2 hc2 na2 nc2 ra2 rc2).toArray 65, errE.L ga2 tr0.1.errs.length gc2 tr0.1.errs, hitE.L ha2 tr0.1.hits.length hc2 tr0.1.hits, texE.L na2 tr0.1.names.length nc2 tr0.1.names, rowE.L ra2 tr0.1.rows.length rc2 tr0.1.rows, A.blk b127 (rpV tr0.1 ga1 gc1 ha1 hc1 na1 nc1 ra1 rc1).toArray 65, errE.L ga1 tr0.1.errs.length gc1 tr0.1.errs, hitE.L ha1 tr0.1.hits.length hc1 tr0.1.hits, texE.L na1 tr0.1.names.length nc1 tr0.1.names, rowE.L ra1 tr0.1.rows.length rc1 tr0.1.rows, BV a108 (roomB s.bs).length c108 (roomB s.bs)] := k
  refine ⟨_, k.rd (by rfl), _, k.rd (by rfl), _, k.rd (by rfl), _, k.rd (by rfl), _, _, _, k.rd (by rfl), _, _, _, k.rd (by rfl), _, _, _, k.rd (by rfl), _, _, _, k.rd (by rfl), _, k.rd (by rfl), _, k.rd (by rfl), _, k.rd (by rfl), _, k.rd (by rfl), _, k.rd (by rfl), _, k.rd (by rfl), _, k.rd (by rfl), _, k.rd (by rfl), _, _, _, k.rd (by rfl), _, _, _, k.rd (by rfl), _, _, _, k.rd (by rfl), _, _, _, k.rd (by rfl), _, k.rd (by rfl), _, k.rd (by rfl), _, k.rd (by rfl), _, k.rd (by rfl), ?_⟩
  have r2 : RpRo none_ h149 tr0.1 ga2 ha2 na2 ra2 := ⟨El.ro (E := errE) k.pull1, El.ro (E := hitE) k.pull2, El.ro (E := texE) k.pull3, El.ro (E := rowE) k.pull4⟩
  have r1 : RpRo none_ h149 tr0.1 ga1 ha1 na1 ra1 := ⟨El.ro (E := errE) k.pull6, El.ro (E := hitE) k.pull7, El.ro (E := texE) k.pull8, El.ro (E := rowE) k.pull9⟩
  refine CallsH.mono (replies_eq r1 r2 sz) ?_
  rintro _ h175 ⟨rfl, m6⟩
  have k := k.next m6
  refine ⟨_, rfl, cond_false (by simp) ?_⟩
  refine rr.one (ex.then k.ext) (by omega) (by omega) fun ad4 s4 hsj4 hcz4 hrd4 => ⟨_, _, _, hcz4 0 _ rfl, ?_⟩
  rw [Int.toNat_natCast] at hsj4
  have e4 : s4.bs = s.bs := Option.some.inj (hsj4.symm.trans hsj)
  have hrd4 : Ro none_ h s4.a (bytesV s4.bs) := hrd4.1
  rw [e4] at hrd4 ⊢
  refine CallsH.mono (roomy_spec (bs := s.bs) (hrd4.mod (ex.then k.ext)).sl rfl hsl) ?_
  rintro _ h180 ⟨a181, c181, rfl, kd⟩
  have k := k.add1 kd
  refine ⟨_, _, _, rfl, ?_⟩
  refine CallsH.mono (same_spec (bs := roomB s.bs) (cs := roomB s.bs) (k.sl (a := a108)) rfl (k.sl (a := a181)) rfl (by omega)) ?_
  rintro _ _ ⟨rfl, rfl⟩
  exact ⟨_, rfl, cond_false (by simp) ⟨lr - (j + 1), by omega, j + 1, wrap_nat hjl (by omega), hjl, rfl, ex.then k.ext⟩⟩
/-- The law. -/
theorem forms_spec {qs : List Rq} {us : List Rp} {raws : List Bytes} {lq cq lu cu lr cr : Nat} (hw : Wd none_ h) (hs : Spk none_ h) (rq : RoX rqE none_ h a lq qs) (hq : ∀ q ∈ qs, RqOk q) (ru : RoX rpE none_ h x lu us) (hu : ∀ u ∈ us, RpOk u) (rr : RoX bytC none_ h y lr raws) (hraw : ∀ b ∈ raws, b.length ≤ 1099511627776)
    (h1 : lq < 9223372036854775807) (h2 : lu < 9223372036854775807) (h3 : lr < 9223372036854775807) : CallsH Tryz.prog 3 #[.slice a lq cq, .slice x lu cu, .slice y lr cr] h (fun v h' => v = .bool true ∧ Ext h h') := by
  refine vf3 _ _ _ _ _ _ _ _ _ h _ ?_
  unfold F3
  refine CallsH.mono (begun_spec hw hs) ?_
  rintro _ h2' ⟨rfl, m1⟩
  have hf : ∀ b, none_ b → False ∨ h.size ≤ b := fun _ h => h.elim
  refine ⟨_, rfl, cond_false rfl ?_⟩
  refine CallsH.mono (asks_spec (hw.at m1 hf) (hs.at m1 hf) (rq.at m1 hf) hq (rr.at m1 hf) hraw h1 h3) ?_
  rintro _ h5 ⟨rfl, m2⟩
  have m3 := m1.then m2
  refine ⟨_, rfl, ?_⟩
  refine CallsH.mono (tells_spec (ru.at m3 hf) hu (rr.at m3 hf) hraw h2 h3) ?_
  rintro _ h8 ⟨rfl, m4⟩
  exact ⟨_, rfl, cond_true rfl ⟨rfl, m3.then m4⟩⟩
end Go.Proofs.YtgdgebmlcgohhaaGreatDoor.F
