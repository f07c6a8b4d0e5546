/- Package proto: a request is read. Conditions: none. -/
import Derived.Test.YtgdgebmlcgohhaaDoorQC
namespace Go.Proofs.YtgdgebmlcgohhaaDoor.F
open Go Go.VC Go.Proofs
set_option linter.unusedSimpArgs false
set_option linter.unusedVariables false
set_option maxRecDepth 100000
attribute [local irreducible] CallsH RunsTo PureTo

variable {S F G : Nat → Prop} {h0 h h1 : Heap} {L R L' : List A} {a b a1 a2 na ea : Option Addr} {l c l1 c1 l2 c2 p t nc ec b1 : Nat} {bs cs bs1 bs2 : List UInt8} {err e1 : Int} {v : Val} {bad bad1 : Bool} {q q2 : Rq}
/-- A request in memory, with its lists. -/
def RqA (b : Nat) (q : Rq) : A := A.ex fun x : (Option Addr × Nat) × (Option Addr × Nat) => A.all [RqB b q x.1.1 x.1.2 x.2.1 x.2.2, texE.L x.1.1 q.names.length x.1.2 q.names, evE.L x.2.1 q.evs.length x.2.2 q.evs]
theorem RqA.open (k : St S h0 h (RqA p q :: R)) : ∃ na nc ea ec, St S h0 h (RqB p q na nc ea ec :: texE.L na q.names.length nc q.names :: evE.L ea q.evs.length ec q.evs :: R) := by
  obtain ⟨x, k⟩ := St.opens k
  exact ⟨x.1.1, x.1.2, x.2.1, x.2.2, St.open (L := [RqB p q x.1.1 x.1.2 x.2.1 x.2.2, texE.L x.1.1 q.names.length x.1.2 q.names, evE.L x.2.1 q.evs.length x.2.2 q.evs]) k⟩
theorem RqA.close (k : St S h0 h (RqB p q na nc ea ec :: texE.L na q.names.length nc q.names :: evE.L ea q.evs.length ec q.evs :: R)) : St S h0 h (RqA p q :: R) :=
  St.closes (f := fun x : (Option Addr × Nat) × (Option Addr × Nat) => A.all [RqB p q x.1.1 x.1.2 x.2.1 x.2.2, texE.L x.1.1 q.names.length x.1.2 q.names, evE.L x.2.1 q.evs.length x.2.2 q.evs]) (x := ((na, nc), (ea, ec))) (St.close (L := [RqB p q na nc ea ec, texE.L na q.names.length nc q.names, evE.L ea q.evs.length ec q.evs]) k)
theorem getP_step {i : Nat} (hi : i < 4) (hw : Wd F h) (k0 : Holds [RP t p a l c bad, RqA b1 q] F h) (r : RdP F h a l c bs) :
    CallsH Tryd.prog (fR i) #[.pointer (some ⟨p, 0, none⟩), .pointer (some ⟨b1, 0, none⟩)] h (fun v h' => v = .tuple #[] ∧ ∃ (q' : Rq) (a1 : Option Addr) (l1 c1 : Nat) (bs1 : Bytes) (bad1 : Bool), Nxt a l c bs a1 l1 c1 bs1 ∧ StepO (getF i q) bs bad q' bs1 bad1 ∧ St F h h' [RP t p a1 l1 c1 bad1, RqA b1 q']) := by
  have k := St.start k0
  match i, hi with
  | 0, _ =>
    refine vf63 _ _ h _ ?_
    unfold F63
    obtain ⟨F', G, kF, kG, d, hF, back⟩ := k.frameA
    refine CallsH.mono (texP_step kF (r.at k.ext hF)) ?_
    rintro _ h2 ⟨s, a1, l1, c1, bs1, bad1, rfl, nx, st, k2⟩
    obtain ⟨na, nc, ea, ec, k⟩ := RqA.open (back k2).pull1
    refine ⟨_, rfl, VSome.mk (k.vst (Nat.le_of_ble_eq_true (by rfl)) fun h5 k => ⟨rfl, { q with name := s }, a1, l1, c1, bs1, bad1, nx, st.bind (.ret _), ?_⟩)⟩
    exact (RqA.close (q := { q with name := s }) k).pull1
  | 1, _ =>
    refine vf66 _ _ h _ ?_
    unfold F66
    obtain ⟨F', G, kF, kG, d, hF, back⟩ := k.frameA
    refine CallsH.mono (texP_step kF (r.at k.ext hF)) ?_
    rintro _ h2 ⟨s, a1, l1, c1, bs1, bad1, rfl, nx, st, k2⟩
    obtain ⟨na, nc, ea, ec, k⟩ := RqA.open (back k2).pull1
    refine ⟨_, rfl, VSome.mk (k.vst (Nat.le_of_ble_eq_true (by rfl)) fun h5 k => ⟨rfl, { q with text := s }, a1, l1, c1, bs1, bad1, nx, st.bind (.ret _), ?_⟩)⟩
    exact (RqA.close (q := { q with text := s }) k).pull1
  | 2, _ =>
    refine vf69 _ _ h _ ?_
    unfold F69
    obtain ⟨F', G, kF, kG, d, hF, back⟩ := k.frame2
    refine CallsH.mono (texsP_step kF (r.at k.ext hF)) ?_
    rintro _ h2 ⟨s, b, cc, a1, l1, c1, bs1, bad1, rfl, nx, st, _, k2⟩
    obtain ⟨na, nc, ea, ec, k⟩ := RqA.open (back k2).pull2
    refine ⟨_, _, _, rfl, VSome.mk (k.vst (Nat.le_of_ble_eq_true (by rfl)) fun h5 k => ⟨rfl, { q with names := s }, a1, l1, c1, bs1, bad1, nx, st.bind (.ret _), ?_⟩)⟩
    have k := (k.sel 5 [1, 0, 4, 2, 3] rfl (by decide) (L' := [_, _, _, _, _]) (by rfl)).drop
    exact (RqA.close (q := { q with names := s }) k).pull1
  | 3, _ =>
    refine vf74 _ _ h _ ?_
    unfold F74
    obtain ⟨F', G, kF, kG, d, hF, back⟩ := k.frame2
    refine CallsH.mono (evsP_step (hw.at k.ext hF) kF (r.at k.ext hF)) ?_
    rintro _ h2 ⟨s, b, cc, a1, l1, c1, bs1, bad1, rfl, nx, st, _, k2⟩
    obtain ⟨na, nc, ea, ec, k⟩ := RqA.open (back k2).pull2
    refine ⟨_, _, _, rfl, VSome.mk (k.vst (Nat.le_of_ble_eq_true (by rfl)) fun h5 k => ⟨rfl, { q with evs := s }, a1, l1, c1, bs1, bad1, nx, st.bind (.ret _), ?_⟩)⟩
    have k := (k.sel 5 [2, 0, 1, 4, 3] rfl (by decide) (L' := [_, _, _, _, _]) (by rfl)).drop
    exact (RqA.close (q := { q with evs := s }) k).pull1
theorem getsF_snoc (i : Nat) : ∀ (is : List Nat) (q : Rq), getsF (is ++ [i]) q = bindO (getsF is q) (getF i)
  | [], q => by
    show bindO (getF i q) retO = _
    rw [bindO_ret]; rfl
  | x :: is, q => by
    show bindO (getF x q) (getsF (is ++ [i])) = bindO (bindO (getF x q) (getsF is)) (getF i)
    rw [bindO_assoc]
    congr 1
    funext q'
    exact getsF_snoc i is q'
theorem asked_fin (hle : ¬ 65528 < bs.length) (s : StepO askedO bs false q bs1 bad1) : (bad1 = true ∨ bs1 ≠ [] → askedR bs = (noRq, 301)) ∧ (bad1 = false → bs1 = [] → askedR bs = (q, 0)) := by
  unfold askedR
  rw [if_neg hle]
  rcases s with ⟨h, _⟩ | ⟨_, h2, h3⟩ | ⟨_, h2, h3⟩
  · cases h
  · rw [h3, h2]
    constructor
    · rintro (h | h)
      · cases h
      · cases bs1 with
        | nil => exact absurd rfl h
        | cons x r => rfl
    · intro _ h; rw [h]
  · rw [h3, h2]
    exact ⟨fun _ => rfl, fun h => by cases h⟩
theorem asked_spec (hw : Wd none_ h) (hs : Spk none_ h) (hsl : Sl h a (bytesV bs)) (hl : bs.length = l) (hlc : l ≤ c) : CallsH Tryd.prog 9 #[.slice a l c] h
    (fun v h' => ∃ na nc ea ec, v = .tuple #[aggQ (askedR bs).1 na nc ea ec, .int .i64 (askedR bs).2] ∧ St none_ h h' [texE.L na (askedR bs).1.names.length nc (askedR bs).1.names, evE.L ea (askedR bs).1.evs.length ec (askedR bs).1.evs]) := by
  refine vf9 _ _ _ h _ ?_
  unfold F9
  have k := St.fresh h
  refine k.vnew fun b1 h2 k => ?_
  have out : ∀ {h' : Heap} {R : List A} (e : Int), St none_ h h' R → askedR bs = (noRq, e) → ∃ na nc ea ec, (Value.tuple #[aggQ noRq none 0 none 0, .int .i64 e]) = .tuple #[aggQ (askedR bs).1 na nc ea ec, .int .i64 (askedR bs).2] ∧ St none_ h h' [texE.L na (askedR bs).1.names.length nc (askedR bs).1.names, evE.L ea (askedR bs).1.evs.length ec (askedR bs).1.evs] := fun e k hr => by
    rw [hr]
    exact ⟨none, 0, none, 0, rfl, (El.nil texE (El.nil evE k)).only2⟩
  refine cond_split (fun hc => ?_) (fun hc => ?_)
  · have hc : 65528 < bs.length := by
      have : (l : Int) > 65528 := of_decide_eq_true hc
      omega
    exact k.vall (by rfl) (by rfl) fun _ k => ⟨_, k.rd (by rfl), _, k.rd (by rfl), _, k.rd (by rfl), _, k.rd (by rfl), _, _, _, k.rd (by rfl), _, _, _, k.rd (by rfl), out 2 k (if_pos hc)⟩
  have hle : ¬ 65528 < bs.length := by
    have : ¬ (l : Int) > 65528 := of_decide_eq_false hc
    omega
  clear hc
  refine k.vnew fun b10 h11 k => ?_
  have r : RdP none_ h a l c bs := ⟨hsl.ro, hl, hlc, by omega⟩
  have k : St none_ h h11 [RP 88 b10 a l c false, RqB b1 noRq none 0 none 0] := k
  obtain ⟨F', G, kF, kG, d, hF, back⟩ := k.frameA
  refine CallsH.mono (oneP_step kF (r.at k.ext hF)) ?_
  rintro _ h13 ⟨x, a1, l1, c1, bs1, bad1, rfl, nx1, s1, _, k2⟩
  have k := back k2
  clear back kF kG d hF
  have ex : IntKind.i64.wrap (x.toNat : Int) = (x.toNat : Int) := by have := x.toNat_lt; rw [wrap_id (by omega) (by omega)]
  refine ⟨_, rfl, k.vnew fun b15 h16 k => ?_⟩
  rw [ex]
  refine k.vall (by rfl) (by rfl) fun h17 k => ?_
  obtain ⟨F', G, kF, kG, d, hF, back⟩ := k.pull1.frameA
  refine CallsH.mono (idP_step kF ((r.nxt nx1).at k.ext hF)) ?_
  rintro _ h19 ⟨n, a2, l2, c2, bs2, bad2, rfl, nx2, s2, hn, k2⟩
  have k := back k2
  clear back kF kG d hF
  refine ⟨_, rfl, k.vst (Nat.le_of_ble_eq_true (by rfl)) fun h21 k => ?_⟩
  have k : St none_ h h21 [RP 88 b10 a2 l2 c2 bad2, RqB b15 ⟨n, x.toNat, [], [], [], []⟩ none 0 none 0, RqB b1 noRq none 0 none 0] := k
  have nx2 := nx1.trans nx2
  clear nx1
  refine ⟨_, k.rd (by rfl), ?_⟩
  cases hb2 : bad2
  rotate_left
  · have e := (asked_fin hle (s1.bind (s2.bind (y := noRq) (bs2 := []) (bad2 := true) (by rw [hb2]; exact .spoilt)))).1 (.inl rfl)
    exact cond_true rfl (k.vall (by rfl) (by rfl) fun _ k => ⟨_, k.rd (by rfl), _, k.rd (by rfl), _, k.rd (by rfl), _, k.rd (by rfl), _, _, _, k.rd (by rfl), _, _, _, k.rd (by rfl), out 301 k e⟩)
  subst hb2
  refine cond_false rfl ⟨_, k.rd (by rfl), ?_⟩
  refine CallsH.mono (known_spec _) ?_
  rintro _ _ ⟨rfl, rfl⟩
  refine ⟨_, rfl, ?_⟩
  by_cases hk : known (x.toNat : Int)
  rotate_left
  · have e := (asked_fin hle (s1.bind (s2.bind (y := noRq) (bs2 := []) (bad2 := true) (.fail fun _ => by rw [if_neg hk]; rfl)))).1 (.inl rfl)
    exact cond_true (by rw [decide_eq_false hk]; rfl) (k.vall (by rfl) (by rfl) fun _ k => ⟨_, k.rd (by rfl), _, k.rd (by rfl), _, k.rd (by rfl), _, k.rd (by rfl), _, _, _, k.rd (by rfl), _, _, _, k.rd (by rfl), out 301 k e⟩)
  refine cond_false (by rw [decide_eq_true hk]; rfl) ?_
  refine CallsH.mono fields_spec ?_
  rintro _ h42 ⟨rfl, m⟩
  have k := k.next m
  clear m
  refine ⟨_, _, _, _, _, _, _, _, _, _, _, _, rfl, k.vnew fun b55 h56 k => k.vall (by rfl) (by rfl) fun h57 k => ⟨_, k.rd (by rfl), ?_⟩⟩
  refine Spk.oneK hs k.ext hk fun ad a60 c60 hc60 r60 => ⟨_, _, _, hc60, ?_⟩
  have k := k.sel 4 [2, 1, 0, 3] rfl (by decide) (L' := [RqB b15 ⟨n, x.toNat, [], [], [], []⟩ none 0 none 0, RP 88 b10 a2 l2 c2 false, A.blk b55 fldV.toArray 76, RqB b1 noRq none 0 none 0]) (by rfl)
  have k := RqA.close (q := ⟨n, x.toNat, [], [], [], []⟩) (El.nil texE (El.nil evE k.pull1.pull1) |>.pull2)
  generalize hQ : (⟨n, (x.toNat : Int), [], [], [], []⟩ : Rq) = q0 at *
  refine ⟨fun m h' y => ∃ (j : Nat) (q' : Rq) (a3 : Option Addr) (l3 c3 : Nat) (bs3 : Bytes) (bad3 : Bool), y = j ∧ j ≤ (spk x.toNat).length ∧ m = (spk x.toNat).length - j ∧ Nxt a l c bs a3 l3 c3 bs3 ∧ StepO (getsF ((spk x.toNat).take j) q0) bs2 false q' bs3 bad3 ∧
    St none_ h h' [RP 88 b10 a3 l3 c3 bad3, RqA b15 q', A.blk b55 fldV.toArray 76, RqB b1 noRq none 0 none 0], ⟨_, 0, q0, a2, l2, c2, bs2, false, rfl, by omega, rfl, nx2, .ret _, k.pull1⟩, ?_⟩
  clear k
  rintro m h63 _ y ⟨j, q', a3, l3, c3, bs3, bad3, rfl, hj, rfl, nx3, s3, k⟩
  have hL4 : (spk x.toNat).length ≤ 2 := by rcases spk_cases x.toNat with e | e | e | e | e | e | e <;> rw [e] <;> simp
  refine cond_split (fun hc => ?_) (fun hc => ?_)
  · have hjl : j < (spk x.toNat).length := Int.ofNat_lt.1 (of_decide_eq_true hc)
    refine (r60.in k).sl.one (f := fun i : Nat => Value.int .i64 (i : Int)) rfl (by omega) (by omega) fun ad z hz hcz => ⟨_, hcz, ?_⟩
    rw [Int.toNat_natCast] at hz
    have hz4 := spk_lt (List.mem_of_getElem? hz)
    refine ⟨by omega, by omega, VSome.mk ?_⟩
    rw [Int.toNat_natCast, VC.add_plain]
    refine ⟨fnV (fR z), k.rd ?_, ?_⟩
    · match z, hz4 with
      | 0, _ => rfl
      | 1, _ => rfl
      | 2, _ => rfl
      | 3, _ => rfl
    obtain ⟨F', G, kF, kG, d, hF, back⟩ := k.frameB
    refine inv_none (enR hz4) (CallsH.mono (getP_step hz4 (hw.at k.ext hF) kF ((r.nxt nx3).at k.ext hF)) ?_)
    rintro _ h72 ⟨rfl, q4, a4, l4, c4, bs4, bad4, nx4, s4, k2⟩
    have k := back k2
    refine ⟨rfl, (spk x.toNat).length - (j + 1), by omega, j + 1, q4, a4, l4, c4, bs4, bad4, wrap_nat hjl (by omega), hjl, rfl, nx3.trans nx4, ?_, k⟩
    rw [take_next hz, getsF_snoc]
    exact s3.bind s4
  · have hjl : j = (spk x.toNat).length := by
      have : ¬ (j : Int) < (spk x.toNat).length := of_decide_eq_false hc
      omega
    subst hjl
    rw [List.take_of_length_le (Nat.le_refl _)] at s3
    have sA : StepO askedO bs false q' bs3 bad3 := s1.bind (s2.bind (by rw [if_pos hk, hQ]; exact s3))
    obtain ⟨f1, f2⟩ := asked_fin hle sA
    have hl3 := nx3.len hl
    refine ⟨_, k.rd (by rfl), ?_⟩
    cases hb3 : bad3
    rotate_left
    · exact cond_true rfl (k.vall (by rfl) (by rfl) fun _ k => ⟨_, k.rd (by rfl), _, k.rd (by rfl), _, k.rd (by rfl), _, k.rd (by rfl), _, _, _, k.rd (by rfl), _, _, _, k.rd (by rfl), out 301 k (f1 (.inl hb3))⟩)
    refine cond_false rfl ⟨_, _, _, k.rd (by rfl), cond_split (fun hc => ?_) (fun hc => ?_)⟩
    · have hc : (l3 : Int) > 0 := of_decide_eq_true hc
      have hne : bs3 ≠ [] := fun e => by rw [e] at hl3; simp at hl3; omega
      exact k.vall (by rfl) (by rfl) fun _ k => ⟨_, k.rd (by rfl), _, k.rd (by rfl), _, k.rd (by rfl), _, k.rd (by rfl), _, _, _, k.rd (by rfl), _, _, _, k.rd (by rfl), out 301 k (f1 (.inr hne))⟩
    · have hc : ¬ (l3 : Int) > 0 := of_decide_eq_false hc
      have he : bs3 = [] := List.eq_nil_of_length_eq_zero (by omega)
      rw [f2 hb3 he]
      obtain ⟨na, nc, ea, ec, k⟩ := RqA.open k.pull1
      refine ⟨_, k.rd (by rfl), _, k.rd (by rfl), _, k.rd (by rfl), _, k.rd (by rfl), _, _, _, k.rd (by rfl), _, _, _, k.rd (by rfl), ?_⟩
      refine k.vall (by rfl) (by rfl) fun h95 k => ⟨_, k.rd (by rfl), _, k.rd (by rfl), _, k.rd (by rfl), _, k.rd (by rfl), _, _, _, k.rd (by rfl), _, _, _, k.rd (by rfl), na, nc, ea, ec, rfl, k.drop.only2⟩
end Go.Proofs.YtgdgebmlcgohhaaDoor.F
