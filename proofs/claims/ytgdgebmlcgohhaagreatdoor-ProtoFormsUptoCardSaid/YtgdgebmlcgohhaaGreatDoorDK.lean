/- Requests and payloads: the document's answers. Conditions: none. -/
import Derived.Test.YtgdgebmlcgohhaaGreatDoorDJ
namespace Go.Proofs.YtgdgebmlcgohhaaGreatDoor.F
open Go Go.VC Go.Proofs
set_option linter.unusedSimpArgs false
set_option linter.unusedVariables false
set_option maxRecDepth 100000
attribute [local irreducible] CallsH RunsTo PureTo

variable {S F G : Nat → Prop} {h0 h h1 : Heap} {L R L' : List A} {a b a1 a2 x ga ha na ra ea tn te tv : Option Addr} {l c l1 c1 l2 c2 p t b1 lx cx gc hc nc rc ec e sz bt n cn ce cv : Nat} {vs news : List Value} {err e1 : Int} {v : Val} {bad bad1 bad2 : Bool} {q : Rq} {u : Rp} {z : Value} {bs : Bytes}
structure Sq where
  q : Rq
  na : Option Addr
  nc : Nat
  ea : Option Addr
  ec : Nat
abbrev rqE : El Rq := ⟨Sq, Sq.q, 57, 6, fun s => rqV s.q s.na s.nc s.ea s.ec, fun s => A.all [texE.L s.na s.q.names.length s.nc s.q.names, evE.L s.ea s.q.evs.length s.ec s.q.evs], fun _ => rfl, fun s v hv => by simp at hv; rcases hv with rfl | rfl | rfl | rfl | rfl | rfl <;> rfl, by omega,
  fun F h s => RqRo F h s.q s.na s.ea, fun r m hf => r.at m hf, fun {_ _ _ _ s} k => by
    have k := St.open (L := [texE.L s.na s.q.names.length s.nc s.q.names, evE.L s.ea s.q.evs.length s.ec s.q.evs]) k
    exact ⟨El.ro (E := texE) k, El.ro (E := evE) k.drop⟩⟩
abbrev bytC : El Bytes := ⟨Sb, Sb.bs, 36, 1, sbV, fun s => BV s.a s.bs.length s.c s.bs, fun _ => rfl, fun s v hv => by simp [sbV] at hv; subst hv; rfl, by omega,
  fun F h s => Ro F h s.a (bytesV s.bs) ∧ s.bs.length ≤ s.c, fun r m hf => ⟨r.1.at m hf, r.2⟩, fun {_ _ _ _ s} k => ⟨(k.sl (a := s.a)).ro, (St.vec (a := s.a) k).1.le⟩⟩
theorem none_at {h h1 : Heap} (m : Ext h h1) : Mod none_ h h1 := m
theorem askR_len (q : Rq) : (askR q).1.length ≤ 65528 := by
  unfold askR
  split
  · exact Nat.zero_le _
  split
  · exact Nat.zero_le _
  split
  · exact Nat.zero_le _
  split
  · exact Nat.zero_le _
  · rename_i h; exact Nat.le_of_not_lt h
theorem tellR_len (u : Rp) : (tellR u).1.length ≤ 65528 := by
  unfold tellR
  split
  · exact Nat.zero_le _
  split
  · exact Nat.zero_le _
  · rename_i h; exact Nat.le_of_not_lt h
theorem putL_ge {α : Type} {p : α → Bytes} (hp : ∀ x, 1 ≤ (p x).length) (xs : List α) : xs.length ≤ (putL p xs).length := by
  have := flat_ge (p := p) (P := fun _ => True) (fun y _ => hp y) (xs := xs) fun _ _ => trivial
  unfold putL; rw [List.length_append]; omega
theorem flat_mem {α β : Type} {f : α → List β} {xs : List α} {x : α} (h : x ∈ xs) : (f x).length ≤ (xs.flatMap f).length := by
  obtain ⟨s, t, rfl⟩ := List.append_of_mem h
  rw [List.flatMap_append, List.flatMap_cons, List.length_append, List.length_append]; omega
theorem asked_sz (b : Bytes) : (askedR b).1.names.length ≤ 65528 ∧ (askedR b).1.evs.length ≤ 65528 ∧ ∀ e ∈ (askedR b).1.evs, e.vs.length ≤ 16 := by
  rcases asked_err b with h | h | h
  · have h0 : askedR b = ((askedR b).1, 0) := by rw [← h]
    obtain ⟨⟨_, _, f1, f2⟩, h2, h3⟩ := asked_ok.1 h0
    generalize (askedR b).1 = q at *
    have hl : ((spk q.k).flatMap fun i => putF i q).length ≤ 65528 := by
      rw [h2] at h3
      unfold putQ at h3
      simp only [List.length_append] at h3
      omega
    refine ⟨?_, ?_, ?_⟩
    · by_cases hm : 2 ∈ spk q.k
      · have h4 : (putF 2 q).length ≤ _ := flat_mem (f := fun i => putF i q) hm
        have h5 : q.names.length ≤ (putF 2 q).length := putL_ge putS_pos q.names
        omega
      · have h4 := f2 2 (by omega) hm
        have h5 : q.names = [] := by simpa [empF] using h4
        rw [h5]; exact Nat.zero_le _
    · by_cases hm : 3 ∈ spk q.k
      · have h4 : (putF 3 q).length ≤ _ := flat_mem (f := fun i => putF i q) hm
        have h6 := f1 3 hm
        have h5 : q.evs.length ≤ (putF 3 q).length := by
          have e : q.evs.flatMap encF = q.evs.flatMap encE := encF_flat h6.2
          have := flat_ge (p := encE) (P := fun _ => True) (fun y _ => encE_pos y) (xs := q.evs) fun _ _ => trivial
          show _ ≤ (putL encF q.evs).length
          unfold putL; rw [List.length_append, e]; omega
        omega
      · have h4 := f2 3 (by omega) hm
        have h5 : q.evs = [] := by simpa [empF] using h4
        rw [h5]; exact Nat.zero_le _
    · intro e he
      by_cases hm : 3 ∈ spk q.k
      · exact (fault0.1 ((f1 3 hm).2 e he).1).2.2.2.1
      · have h4 := f2 3 (by omega) hm
        have h5 : q.evs = [] := by simpa [empF] using h4
        rw [h5] at he; cases he
  · rw [h]; exact ⟨Nat.zero_le _, Nat.zero_le _, fun e he => by cases he⟩
  · rw [h]; exact ⟨Nat.zero_le _, Nat.zero_le _, fun e he => by cases he⟩
theorem names_le (ok : RqOk q) : q.names.length ≤ 1099511627776 := by
  have h1 : q.names.length ≤ (putF 2 q).length := putL_ge putS_pos q.names
  have := ok.big
  omega
theorem room_pre (bs : Bytes) : ∃ ms, roomB bs = bs ++ ms := ⟨_, rfl⟩
set_option maxHeartbeats 4000000 in
theorem asks_spec {qs : List Rq} {raws : List Bytes} {lr cr : Nat} (hw : Wd none_ h) (hs : Spk none_ h) (rs : RoX rqE none_ h a l qs) (hok : ∀ q ∈ qs, RqOk q) (rr : RoX bytC none_ h x lr raws) (hraw : ∀ b ∈ raws, b.length ≤ 1099511627776) (hl : l < 9223372036854775807) (hlr : lr < 9223372036854775807) :
    CallsH Tryz.prog 6 #[.slice a l c, .slice x lr cr] h (fun v h' => v = .bool true ∧ Ext h h') := by
  refine vf6 _ _ _ _ _ _ h _ ?_
  unfold F6
  have hf : ∀ b, none_ b → none_ b ∨ h.size ≤ b := fun _ h => h.elim
  refine ⟨fun m h' _ i => ∃ j : Nat, i = j ∧ j ≤ l ∧ m = l - j ∧ Ext h h', ⟨_, 0, rfl, Nat.zero_le _, rfl, Mod.refl _ h⟩, ?_⟩
  rintro m h3 _ y i ⟨j, rfl, hj, rfl, ex⟩
  refine cond_split (fun hc => ?_) (fun hc => ?_)
  · have hjl : j < l := Int.ofNat_lt.1 (of_decide_eq_true hc)
    refine ⟨fun h' _ => Ext h h', ?_, fun h83 _ _ ex => ⟨l - (j + 1), by omega, j + 1, wrap_nat hjl (by omega), hjl, rfl, ex⟩⟩
    refine rs.one ex (by omega) (by omega) fun ad s hsj hcz hrd => ⟨_, hcz 0 _ rfl, _, hcz 1 _ rfl, _, hcz 2 _ rfl, _, hcz 3 _ rfl, _, _, _, hcz 4 _ rfl, _, _, _, hcz 5 _ rfl, ?_⟩
    rw [Int.toNat_natCast] at hsj
    have hrd : RqRo none_ h s.q s.na s.ea := hrd
    have ok : RqOk s.q := hok _ (List.mem_of_getElem? hsj)
    have okE := ok.evs
    refine CallsH.mono (great_spec (q := s.q) (by omega) (hrd.at ex fun _ h => h.elim)) ?_
    rintro _ h17 ⟨b18, rfl, m1⟩
    have ex := ex.then m1
    refine ⟨_, rfl, ?_⟩
    cases b18
    rotate_left
    · exact cond_true rfl ex
    refine cond_false rfl ?_
    refine rs.one ex (by omega) (by omega) fun ad2 s2 hsj2 hcz2 hrd2 => ⟨_, hcz2 0 _ rfl, _, hcz2 1 _ rfl, _, hcz2 2 _ rfl, _, hcz2 3 _ rfl, _, _, _, hcz2 4 _ rfl, _, _, _, hcz2 5 _ rfl, ?_⟩
    rw [Int.toNat_natCast] at hsj2
    have e2 : s2.q = s.q := Option.some.inj (hsj2.symm.trans hsj)
    have hrd2 : RqRo none_ h s2.q s2.na s2.ea := hrd2
    rw [e2] at hrd2 ⊢
    refine CallsH.mono (twinOf_spec (names_le ok) ok.evs (fun e he => (ok.rng e he).2) (hrd2.at ex fun _ h => h.elim)) ?_
    rintro _ h27 ⟨tn, cn, te, ce, tv, cv, rfl, hcn, hce, m2, tw⟩
    have ex := ex.then m2
    refine ⟨_, _, _, _, _, _, _, _, _, _, _, _, _, _, _, _, _, _, _, rfl, (St.fresh h27).vnew fun b37 h38 k => k.vall (by rfl) (by rfl) fun h39 k => ?_⟩
    have k : St none_ h27 h39 [A.blk b37 (twV s.q tn s.q.names.length (s.q.names.length + 12) te s.q.evs.length (s.q.evs.length + 12) tn (s.q.names.length + 12) cn te (s.q.evs.length + 12) ce tv s.q.evs.length cv).toArray 77] := k
    refine ⟨_, k.rd (by rfl), _, k.rd (by rfl), _, k.rd (by rfl), _, k.rd (by rfl), _, _, _, k.rd (by rfl), _, _, _, k.rd (by rfl), ?_⟩
    have ex39 := ex.then k.ext
    refine CallsH.mono (ask_spec (q := s.q) (hw.at ex39 fun _ h => h.elim) (hs.at ex39 fun _ h => h.elim) ok (tw.at k.ext).ro) ?_
    rintro _ h47 ⟨x48, c48, rfl, kd⟩
    have k := k.add1 kd
    refine ⟨_, _, _, _, rfl, ?_⟩
    refine rs.one (ex.then k.ext) (by omega) (by omega) fun ad3 s3 hsj3 hcz3 hrd3 => ⟨_, hcz3 0 _ rfl, _, hcz3 1 _ rfl, _, hcz3 2 _ rfl, _, hcz3 3 _ rfl, _, _, _, hcz3 4 _ rfl, _, _, _, hcz3 5 _ rfl, ?_⟩
    rw [Int.toNat_natCast] at hsj3
    have e3 : s3.q = s.q := Option.some.inj (hsj3.symm.trans hsj)
    have hrd3 : RqRo none_ h s3.q s3.na s3.ea := hrd3
    rw [e3] at hrd3 ⊢
    refine CallsH.mono (dask_spec ok (hrd3.at (ex.then k.ext) fun _ h => h.elim)) ?_
    rintro _ h58 ⟨x59, c59, rfl, kd⟩
    have k := k.add1 kd
    have hal := askR_len s.q
    refine ⟨_, _, _, _, rfl, cond_false (by simp) ?_⟩
    refine CallsH.mono (same_spec (bs := (askR s.q).1) (cs := (askR s.q).1) (k.sl (a := x48)) rfl (k.sl (a := x59)) rfl (by omega)) ?_
    rintro _ _ ⟨rfl, rfl⟩
    refine ⟨_, rfl, cond_false (by simp) ⟨_, k.rd (by rfl), _, k.rd (by rfl), _, k.rd (by rfl), _, k.rd (by rfl), _, _, _, k.rd (by rfl), _, _, _, k.rd (by rfl), _, _, _, k.rd (by rfl), _, _, _, k.rd (by rfl), _, _, _, k.rd (by rfl), ?_⟩⟩
    refine rs.one (ex.then k.ext) (by omega) (by omega) fun ad4 s4 hsj4 hcz4 hrd4 => ⟨_, hcz4 0 _ rfl, _, hcz4 1 _ rfl, _, hcz4 2 _ rfl, _, hcz4 3 _ rfl, _, _, _, hcz4 4 _ rfl, _, _, _, hcz4 5 _ rfl, ?_⟩
    rw [Int.toNat_natCast] at hsj4
    have e4 : s4.q = s.q := Option.some.inj (hsj4.symm.trans hsj)
    have hrd4 : RqRo none_ h s4.q s4.na s4.ea := hrd4
    rw [e4] at hrd4 ⊢
    refine CallsH.mono (kept_spec (names_le ok) ok.evs (fun e he => (ok.rng e he).2) hcn hce (tw.at k.ext) (hrd4.at (ex.then k.ext) fun _ h => h.elim)) ?_
    rintro _ h81 ⟨rfl, m5⟩
    exact ⟨_, rfl, cond_false rfl ((ex.then k.ext).then m5)⟩
  clear hc hj
  refine ⟨fun m h' _ i => ∃ j : Nat, i = j ∧ j ≤ lr ∧ m = lr - j ∧ Ext h h', ⟨_, 0, rfl, Nat.zero_le _, rfl, ex⟩, ?_⟩
  clear ex
  rintro m h88 _ y i ⟨j, rfl, hj, rfl, ex⟩
  refine cond_split (fun hc => ?_) (fun hc => ⟨rfl, ex⟩)
  have hjl : j < lr := Int.ofNat_lt.1 (of_decide_eq_true hc)
  refine rr.one ex (by omega) (by omega) fun ad s hsj hcz hrd => ⟨_, _, _, hcz 0 _ rfl, ?_⟩
  rw [Int.toNat_natCast] at hsj
  have hrd : Ro none_ h s.a (bytesV s.bs) := hrd.1
  have hsl : s.bs.length ≤ 1099511627776 := hraw _ (List.mem_of_getElem? hsj)
  refine CallsH.mono (roomy_spec (bs := s.bs) (hrd.mod ex).sl rfl hsl) ?_
  rintro _ h96 ⟨a97, c97, rfl, k⟩
  have hrl := roomB_len s.bs
  have hle := (St.vec (a := a97) k).1.le
  refine ⟨_, _, _, rfl, ?_⟩
  refine rr.one (ex.then k.ext) (by omega) (by omega) fun ad2 s2 hsj2 hcz2 hrd2 => ⟨_, _, _, hcz2 0 _ rfl, ?_⟩
  rw [Int.toNat_natCast] at hsj2
  have e2 : s2.bs = s.bs := Option.some.inj (hsj2.symm.trans hsj)
  rw [e2]
  refine vfront rfl rfl (by omega) hle ?_
  obtain ⟨ms, hms⟩ := room_pre s.bs
  have ex96 := ex.then k.ext
  have hpre : Sl h96 a97 (bytesV s.bs) := by
    have r := (k.sl (a := a97)).ro
    rw [hms, bytesV_app] at r
    exact r.pre.sl
  refine CallsH.mono (asked_spec (bs := s.bs) (hw.at ex96 fun _ h => h.elim) (hs.at ex96 fun _ h => h.elim) hpre rfl (by omega)) ?_
  rintro _ h102 ⟨na1, nc1, ea1, ec1, rfl, kd⟩
  have k := k.add2 kd
  refine ⟨_, _, _, _, _, _, _, _, _, _, _, rfl, k.vnew fun b110 h111 k => k.vall (by rfl) (by rfl) fun h112 k => ?_⟩
  refine rr.one (ex.then k.ext) (by omega) (by omega) fun ad3 s3 hsj3 hcz3 hrd3 => ⟨_, _, _, hcz3 0 _ rfl, ?_⟩
  rw [Int.toNat_natCast] at hsj3
  have e3 : s3.bs = s.bs := Option.some.inj (hsj3.symm.trans hsj)
  have hrd3 : Ro none_ h s3.a (bytesV s3.bs) ∧ s3.bs.length ≤ s3.c := hrd3
  rw [e3] at hrd3 ⊢
  refine CallsH.mono (dasked_spec (bs := s.bs) (hrd3.1.mod (ex.then k.ext)).sl rfl hrd3.2) ?_
  rintro _ h116 ⟨na2, nc2, ea2, ec2, rfl, kd⟩
  have k := k.add2 kd
  obtain ⟨z1, z2, z3⟩ := asked_sz s.bs
  refine ⟨_, _, _, _, _, _, _, _, _, _, _, rfl, k.vnew fun b124 h125 k => k.vall (by rfl) (by rfl) fun h126 k => cond_false (by simp) ?_⟩
  generalize askedR s.bs = A at *
  have k : St none_ h88 h126 [RqB b124 A.1 na2 nc2 ea2 ec2, texE.L na2 A.1.names.length nc2 A.1.names, evE.L ea2 A.1.evs.length ec2 A.1.evs, RqB b110 A.1 na1 nc1 ea1 ec1, texE.L na1 A.1.names.length nc1 A.1.names, evE.L ea1 A.1.evs.length ec1 A.1.evs, BV a97 (roomB s.bs).length c97 (roomB s.bs)] := k
  refine ⟨_, k.rd (by rfl), _, k.rd (by rfl), _, k.rd (by rfl), _, k.rd (by rfl), _, _, _, k.rd (by rfl), _, _, _, k.rd (by rfl), _, k.rd (by rfl), _, k.rd (by rfl), _, k.rd (by rfl), _, k.rd (by rfl), _, _, _, k.rd (by rfl), _, _, _, k.rd (by rfl), ?_⟩
  have r2 : RqRo none_ h126 A.1 na2 ea2 := ⟨El.ro (E := texE) k.pull1, El.ro (E := evE) k.pull2⟩
  have r1 : RqRo none_ h126 A.1 na1 ea1 := ⟨El.ro (E := texE) k.pull4, El.ro (E := evE) k.pull5⟩
  refine CallsH.mono (requests_eq r1 r2 (by omega) (by omega) fun e he => by have := z3 e he; omega) ?_
  rintro _ h140 ⟨rfl, m6⟩
  have k := k.next m6
  refine ⟨_, rfl, cond_false (by simp) ?_⟩
  refine rr.one (ex.then k.ext) (by omega) (by omega) fun ad4 s4 hsj4 hcz4 hrd4 => ⟨_, _, _, hcz4 0 _ rfl, ?_⟩
  rw [Int.toNat_natCast] at hsj4
  have e4 : s4.bs = s.bs := Option.some.inj (hsj4.symm.trans hsj)
  have hrd4 : Ro none_ h s4.a (bytesV s4.bs) := hrd4.1
  rw [e4] at hrd4 ⊢
  refine CallsH.mono (roomy_spec (bs := s.bs) (hrd4.mod (ex.then k.ext)).sl rfl hsl) ?_
  rintro _ h145 ⟨a146, c146, rfl, kd⟩
  have k := k.add1 kd
  refine ⟨_, _, _, rfl, ?_⟩
  refine CallsH.mono (same_spec (bs := roomB s.bs) (cs := roomB s.bs) (k.sl (a := a97)) rfl (k.sl (a := a146)) rfl (by omega)) ?_
  rintro _ _ ⟨rfl, rfl⟩
  exact ⟨_, rfl, cond_false (by simp) ⟨lr - (j + 1), by omega, j + 1, wrap_nat hjl (by omega), hjl, rfl, ex.then k.ext⟩⟩
end Go.Proofs.YtgdgebmlcgohhaaGreatDoor.F
