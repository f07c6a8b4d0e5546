/- The laws of proto: bytes in any pieces. Conditions: none. -/
import Derived.Test.YtgdgebmlcgohhaaDoorQI
namespace Go.Proofs.YtgdgebmlcgohhaaDoor.F
open Go Go.VC Go.Proofs
set_option linter.unusedSimpArgs false
set_option linter.unusedVariables false
set_option maxRecDepth 100000
attribute [local irreducible] CallsH RunsTo PureTo

section
variable {α : Type} {E : El α} {S F G : Nat → Prop} {h0 h h1 : Heap} {R : List A} {a b : Option Addr} {l c l2 c2 : Nat} {xs ys : List α}
theorem El.cat {P : Program} {t bt : Nat} {z : Value} (T : SlTy P t E.e E.sz bt z) (k : St S h0 h (E.L a l c xs :: E.L b l2 c2 ys :: R)) (hb : (l + l2) * bt ≤ 140737488355328) {K : KV}
    (q : ∀ a' c' h', St S h0 h' (E.L a' (l + l2) c' (xs ++ ys) :: R) → K (.slice a' (l + l2) c') h') : RunsTo P (Builtin.append_ #[t, t] t #[.slice a l c, .slice b l2 c2]) h K := by
  obtain ⟨ss, he, k⟩ := El.open k
  obtain ⟨ts, hf, k⟩ := El.open k.pull2
  obtain ⟨v, _, _⟩ := St.vec (a := b) k
  have hl := v.len
  have hsl := k.sl (a := b)
  refine k.pull2.app T T.ut (by simp) (Src.slice hsl hl) (fun v hv => ?_) hb fun a' c' h' k => q a' c' h' ?_
  · obtain ⟨s, hs, hv⟩ := List.mem_flatMap.1 hv
    exact E.one s v hv
  · rw [← List.flatMap_append] at k
    refine El.close (ss := ss ++ ts) (by rw [List.map_append, he, hf]) ?_
    rw [List.map_append]
    have k := (k.pull1.drop).pull2.pull2.pull1
    exact k.allJoin.pull1
end
variable {S F G : Nat → Prop} {h0 h h1 : Heap} {L R L' : List A} {a b a1 a2 na ea nb eb ga ha nm ra : Option Addr} {l c l1 c1 l2 c2 p t b1 nc ec nd ed gc hc nk rc : Nat} {bs cs bs1 bs2 w raw : List UInt8} {err e1 : Int} {v : Val} {bad bad1 sp : Bool} {q : Rq} {u : Rp}
theorem cut_frames : ∀ {ps : List Bytes}, (∀ x ∈ ps, x.length ≤ 65528) → cut (ps.flatMap frameB) = (ps, [], false)
  | [], _ => cut_nil
  | x :: ps, h => by
    rw [List.flatMap_cons, cut_frame (h x (by simp)), cut_frames fun y hy => h y (by simp [hy])]
theorem feed_step (C X : Bytes) : (cut (C ++ X)).1 = (cut C).1 ++ (feedR (cut C).2.1 (cut C).2.2 X).1 ∧ (cut (C ++ X)).2.1 = (feedR (cut C).2.1 (cut C).2.2 X).2.2.1 ∧ (cut (C ++ X)).2.2 = (feedR (cut C).2.1 (cut C).2.2 X).2.2.2 ∧ (feedR (cut C).2.1 (cut C).2.2 X).2.1 = if (feedR (cut C).2.1 (cut C).2.2 X).2.2.2 then 300 else 0 := by
  rw [cut_app _ C X (Nat.lt_succ_self _)]
  cases h : (cut C).2.2
  · unfold feedR
    simp
  · unfold feedR
    rw [cut_bad_rest _ C (Nat.lt_succ_self _) h]
    simp
def sbB (ss : List Sb) : Bytes := (ss.map Sb.bs).flatMap frameB
theorem sbB_ge : ∀ ss : List Sb, 8 * ss.length ≤ (sbB ss).length
  | [] => Nat.zero_le _
  | s :: ss => by
    have h := sbB_ge ss
    have h2 := frameB_len s.bs
    have e : sbB (s :: ss) = frameB s.bs ++ sbB ss := rfl
    rw [e, List.length_append, List.length_cons]
    omega
theorem sbB_next (ss : List Sb) (s : Sb) : sbB (ss ++ [s]) = sbB ss ++ frameB s.bs := by unfold sbB; simp
theorem cut_mem_len : ∀ (n : Nat) (w : Bytes), w.length < n → ∀ y ∈ (cut w).1, y.length ≤ w.length
  | 0, _, h => absurd h (Nat.not_lt_zero _)
  | n + 1, w, h => by
    cases hn : nextF w with
    | more => rw [cut_more hn]; intro y hy; cases hy
    | bad => rw [cut_bad hn]; intro y hy; cases hy
    | got p r =>
      have h1 := (next_got (x := []) hn).2
      rw [cut_got hn]
      intro y hy
      rcases List.mem_cons.1 hy with rfl | hy
      · unfold nextF at hn
        split at hn
        · cases hn
        split at hn
        · cases hn
        split at hn
        · cases hn
        split at hn
        · cases hn
        cases hn
        rw [List.length_take, List.length_drop]; omega
      · have := cut_mem_len n r (by omega) y hy
        omega
set_option maxHeartbeats 2000000 in
theorem pieces_spec {ps : List Bytes} {mo : Bytes} {ns : List Int} {am ac : Option Addr} {lm cm lc cc : Nat} (hw : Wd none_ h) (hs : Spk none_ h) (r : RoX bytE none_ h a l ps) (hmo : Sl h am (bytesV mo)) (hlm : mo.length = lm) (hcm : lm ≤ cm) (hcs : Sl h ac (ns.map fun n : Int => Value.int .i64 n)) (hlc : ns.length = lc) (hb : l ≤ 17592186044416) (hb2 : lc ≤ 17592186044416) :
    CallsH Tryd.prog 5 #[.slice a l c, .slice am lm cm, .slice ac lc cc] h (fun v h' => v = .bool true ∧ Ext h h') := by
  refine vf5 _ _ _ _ _ _ _ _ _ h _ ?_
  unfold F5
  have k := St.fresh h
  refine CallsH.mono (begun_spec (hw.in k) (hs.in k)) ?_
  rintro _ h2 ⟨rfl, m⟩
  have k := k.next m
  clear m
  refine ⟨_, rfl, cond_false rfl ?_⟩
  have hpl := r.len
  refine ⟨fun m h' y all_ lall_ call_ want_ lw_ cw_ i => ∃ (j : Nat) (ss : List Sb), i = j ∧ j ≤ l ∧ m = l - j ∧ lall_ = (sbB ss).length ∧ lw_ = ss.length ∧ (∀ s ∈ ss, Ro none_ h s.a (bytesV s.bs) ∧ s.bs.length ≤ 65528) ∧ ss.length ≤ j ∧ (sbB ss).length ≤ 1048576 + 65536 ∧
    St none_ h h' [BV all_ (sbB ss).length call_ (sbB ss), A.vec 35 1 want_ ss.length cw_ (ss.flatMap sbV)], ⟨_, 0, [], rfl, by omega, rfl, rfl, rfl, (by intro s hs; cases hs), by simp, by simp [sbB], ?_⟩, ?_⟩
  · exact (k.vnil 35 (sz := 1) (by omega)).vnil 5 (sz := 1) (by omega)
  clear k
  rintro m h6 _ y all_ _ call_ want_ _ cw_ i ⟨j, ss, rfl, hj, rfl, rfl, rfl, hss, hsl, hal, k⟩
  refine cond_split (fun hc => ?_) (fun hc => ?_)
  rotate_left
  · clear hc
    refine CallsH.mono new_spec ?_
    rintro _ h42 ⟨pa, rfl, k2⟩
    have k := k.add1 k2
    refine ⟨_, rfl, ?_⟩
    obtain ⟨F', G, kF, kG, d, hF, back⟩ := k.frame2
    refine CallsH.mono (feed_spec kF (kG.ro d (a := all_)) rfl (fun _ => by show 0 + (sbB ss).length ≤ _; omega)) ?_
    rintro _ h45 ⟨x, cx, rfl, k2⟩
    have k := back k2
    clear back kF kG d hF
    have hcut : cut (sbB ss) = (ss.map Sb.bs, [], false) := cut_frames fun y hy => by
      obtain ⟨s, hs, rfl⟩ := List.mem_map.1 hy
      exact (hss s hs).2
    have ef : feedR [] false (sbB ss) = (ss.map Sb.bs, 0, [], false) := by
      unfold feedR
      rw [List.nil_append, hcut]; rfl
    rw [ef] at k ⊢
    refine ⟨_, _, _, _, rfl, cond_false rfl ?_⟩
    have hwant : RoX bytE none_ h45 want_ ss.length (ss.map Sb.bs) := ⟨ss, (k.sl (a := want_)).ro, fun s hs => ((hss s hs).1.in k), rfl, List.length_map _⟩
    refine CallsH.mono (lists_eq (El.ro (E := bytE) k.pull1) hwant (by show (ss.map Sb.bs).length < _; rw [List.length_map]; omega) (fun y hy => ?_)) ?_
    · obtain ⟨s, hs, rfl⟩ := List.mem_map.1 hy
      have := (hss s hs).2
      omega
    rintro _ _ ⟨rfl, rfl⟩
    refine ⟨_, rfl, cond_false (by simp) ?_⟩
    obtain ⟨F', G, kF, kG, d, hF, back⟩ := k.frameA
    refine CallsH.mono (rest_spec kF) ?_
    rintro _ _ ⟨rfl, rfl⟩
    clear back kF kG d hF
    refine ⟨_, rfl, cond_false rfl ?_⟩
    have hmin : minI (lm : Int) 1048576 = ((min lm 1048576 : Nat) : Int) := by unfold minI; split <;> omega
    refine cutA (bs := mo) hlm (lo := 0) (hi := min lm 1048576) (mx := cm) rfl hmin rfl (by omega) (by omega) (by omega) (Nat.le_refl _) fun a54 r54 l54 => ?_
    rw [List.drop_zero] at r54 l54
    rw [Nat.sub_zero] at l54 ⊢
    generalize hBm : mo.take (min lm 1048576) = Bm at r54 l54
    have k := k.sel 4 [2, 0, 1, 3] rfl (by decide) (L' := [BV all_ (sbB ss).length call_ (sbB ss), _, _, _]) (by rfl)
    rw [← l54]
    refine app_bytes (s := Bm) k (r54 _ _ (hmo.ro.in k)).sl (by omega) fun a57 c57 h56 k => ⟨_, _, _, rfl, ?_⟩
    have hA2l : (sbB ss ++ Bm).length = (sbB ss).length + Bm.length := List.length_append
    rw [← hA2l] at k ⊢
    have hA2 : (sbB ss ++ Bm).length ≤ 2200000 := by omega
    generalize sbB ss ++ Bm = A2 at k hA2 ⊢
    clear hA2l
    have k := k.only
    have hcapA : A2.length ≤ c57 := by
      obtain ⟨q, _, _⟩ := St.vec (a := a57) k
      exact q.le
    refine CallsH.mono new_spec ?_
    rintro _ h59 ⟨pb, rfl, k2⟩
    have k := k.add1 k2
    refine ⟨_, rfl, ?_⟩
    obtain ⟨F', G, kF, kG, d, hF, back⟩ := k.frame2
    refine CallsH.mono (feed_spec kF (kG.ro d (a := a57)) rfl (fun _ => by show 0 + A2.length ≤ _; omega)) ?_
    rintro _ h62 ⟨x2, cx2, rfl, k2⟩
    have k := back k2
    clear back kF kG d hF
    have ef2 : feedR [] false A2 = ((cut A2).1, if (cut A2).2.2 then 300 else 0, (cut A2).2.1, (cut A2).2.2) := by
      unfold feedR
      rw [List.nil_append]; rfl
    rw [ef2] at k ⊢
    refine ⟨_, _, _, _, rfl, ?_⟩
    refine CallsH.mono new_spec ?_
    rintro _ h66 ⟨pc, rfl, k2⟩
    have k := k.add1 k2
    have hcl := cuts_len _ A2 (Nat.lt_succ_self _)
    refine ⟨_, rfl, fun m h' o lo co last from_ i => ∃ (j pos : Nat), i = j ∧ j ≤ lc + 1 ∧ m = lc + 1 - j ∧ from_ = pos ∧ pos ≤ A2.length ∧ (j = lc + 1 → pos = A2.length) ∧ lo = (cut (A2.take pos)).1.length ∧ last = (if (cut (A2.take pos)).2.2 then 300 else 0) ∧
      St none_ h h' [ST pc (cut (A2.take pos)).2.1 (cut (A2.take pos)).2.2, bytE.L o (cut (A2.take pos)).1.length co (cut (A2.take pos)).1, ST pb (cut A2).2.1 (cut A2).2.2, bytE.L x2 (cut A2).1.length cx2 (cut A2).1, BV a57 A2.length c57 A2],
      ⟨_, 0, 0, rfl, by omega, rfl, rfl, by omega, fun h => by omega, ?_, ?_, ?_⟩, ?_⟩
    · rw [List.take_zero, cut_nil]; rfl
    · rw [List.take_zero, cut_nil]; rfl
    · rw [List.take_zero, cut_nil]
      exact (El.nil bytE k).pull1
    clear k
    rintro m h70 _ o lo co last from_ i ⟨j, pos, rfl, hj, rfl, rfl, hpos, hend, rfl, rfl, k⟩
    have hpl := cuts_len _ (A2.take pos) (Nat.lt_succ_self _)
    have htl : (A2.take pos).length = pos := by rw [List.length_take]; omega
    refine cond_split (fun hc => ?_) (fun hc => ?_)
    · have hjl : j ≤ lc := by
        have : (j : Int) ≤ lc := of_decide_eq_true hc
        omega
      refine ⟨fun h' to => ∃ to2 : Nat, to = to2 ∧ pos ≤ to2 ∧ to2 ≤ A2.length ∧ (j = lc → to2 = A2.length) ∧ h' = h70, ?_, ?_⟩
      · refine cond_split (fun hc => ?_) (fun hc => ?_)
        · have hjc : j < lc := Int.ofNat_lt.1 (of_decide_eq_true hc)
          refine (hcs.ext k.ext).one (f := fun n : Int => Value.int .i64 n) hlc (by omega) (by omega) fun ad n hn hcn => ⟨_, hcn, by omega, ?_⟩
          refine ⟨fun h' n' => ∃ n2 : Nat, n' = n2 ∧ n2 < 40 ∧ h' = h70, ?_, ?_⟩
          · have h1 : Int.tmod n 40 < 40 := by have := Int.tmod_lt_of_pos n (b := 40) (by omega); omega
            have h2 : -40 < Int.tmod n 40 := by
              have := Int.lt_tmod_of_pos n (b := 40) (by omega)
              omega
            refine cond_split (fun hc => ?_) (fun hc => ?_)
            · have h3 : Int.tmod n 40 < 0 := of_decide_eq_true hc
              refine ⟨(0 - Int.tmod n 40).toNat, ?_, by omega, rfl⟩
              rw [wrap_id (by omega) (by omega)]; omega
            · have h3 : ¬ Int.tmod n 40 < 0 := of_decide_eq_false hc
              exact ⟨(Int.tmod n 40).toNat, by omega, by omega, rfl⟩
          · rintro h81 _ n' ⟨n2, rfl, hn2, rfl⟩
            have ew : IntKind.i64.wrap ((pos : Int) + (n2 : Int)) = ((pos + n2 : Nat) : Int) := by rw [wrap_id (by omega) (by omega)]; omega
            rw [ew]
            refine cond_split (fun hc => ?_) (fun hc => ?_)
            · exact ⟨A2.length, rfl, hpos, Nat.le_refl _, fun _ => rfl, rfl⟩
            · have h3 : ¬ ((pos + n2 : Nat) : Int) > (A2.length : Int) := of_decide_eq_false hc
              exact ⟨pos + n2, rfl, by omega, by omega, fun h => by omega, rfl⟩
        · exact ⟨A2.length, rfl, hpos, Nat.le_refl _, fun _ => rfl, rfl⟩
      · rintro h84 _ to ⟨to2, rfl, hto, hto2, hlast, rfl⟩
        refine cutA (bs := A2) rfl (lo := pos) (hi := to2) (mx := c57) rfl rfl rfl hto hto2 (by omega) (Nat.le_refl _) fun a87 r87 l87 => ?_
        obtain ⟨F', G, kF, kG, d, hF, back⟩ := k.frame2
        refine CallsH.mono (feed_spec kF (r87 _ _ (kG.ro d (a := a57))) l87 (fun _ => by omega)) ?_
        rintro _ h89 ⟨x3, cx3, rfl, k2⟩
        have k := back k2
        clear back kF kG d hF
        have ex : A2.take to2 = A2.take pos ++ (A2.take to2).drop pos := by
          conv => lhs; rw [← List.take_append_drop pos (A2.take to2), List.take_take, Nat.min_eq_left hto]
        obtain ⟨s1, s2, s3, s4⟩ := feed_step (A2.take pos) ((A2.take to2).drop pos)
        rw [← ex] at s1 s2 s3
        have hpl2 := cuts_len _ (A2.take to2) (Nat.lt_succ_self _)
        have htl2 : (A2.take to2).length = to2 := by rw [List.length_take]; omega
        have hle2 := congrArg List.length s1
        rw [List.length_append] at hle2
        refine ⟨_, _, _, _, rfl, ?_⟩
        have k := k.sel 6 [2, 1, 0, 3, 4, 5] rfl (by decide) (L' := [bytE.L o _ co _, bytE.L x3 _ cx3 _, _, _, _, _]) (by rfl)
        refine El.cat (E := bytE) T48 k (by omega) fun o' co' h93 k => ⟨_, _, _, rfl, lc + 1 - (j + 1), by omega, j + 1, to2, by rw [wrap_id (by omega) (by omega)]; omega, by omega, rfl, rfl, hto2, fun h => hlast (by omega), by omega, ?_, ?_⟩
        · rw [s4, s3]
        · rw [s1, s2, s3, List.length_append]
          exact k.pull1
    · have hjl : j = lc + 1 := by
        have : ¬ (j : Int) ≤ lc := of_decide_eq_false hc
        omega
      have hp := hend hjl
      rw [hp, List.take_length] at k ⊢
      refine cond_true (by simp) ?_
      refine CallsH.mono (lists_eq (El.ro (E := bytE) k.pull1) (El.ro (E := bytE) k.pull3) (by omega) (fun y hy => ?_)) ?_
      · have := cut_mem_len _ A2 (Nat.lt_succ_self _) y hy
        omega
      rintro _ _ ⟨rfl, rfl⟩
      refine ⟨_, rfl, cond_true (by simp) ?_⟩
      obtain ⟨F', G, kF, kG, d, hF, back⟩ := k.frameA
      refine CallsH.mono (rest_spec kF) ?_
      rintro _ _ ⟨rfl, rfl⟩
      clear back kF kG d hF
      refine ⟨_, rfl, ?_⟩
      obtain ⟨F', G, kF, kG, d, hF, back⟩ := k.pull2.frameA
      refine CallsH.mono (rest_spec kF) ?_
      rintro _ _ ⟨rfl, rfl⟩
      exact ⟨_, rfl, by simp, k.ext⟩
  have hjl : j < l := Int.ofNat_lt.1 (of_decide_eq_true hc)
  clear hc
  generalize hBig : (1048576 : Int) = big
  refine cond_split (fun hc => ?_) (fun hc => ?_)
  rotate_left
  · clear hc
    subst hBig
    refine CallsH.mono new_spec ?_
    rintro _ h42 ⟨pa, rfl, k2⟩
    have k := k.add1 k2
    refine ⟨_, rfl, ?_⟩
    obtain ⟨F', G, kF, kG, d, hF, back⟩ := k.frame2
    refine CallsH.mono (feed_spec kF (kG.ro d (a := all_)) rfl (fun _ => by show 0 + (sbB ss).length ≤ _; omega)) ?_
    rintro _ h45 ⟨x, cx, rfl, k2⟩
    have k := back k2
    clear back kF kG d hF
    have hcut : cut (sbB ss) = (ss.map Sb.bs, [], false) := cut_frames fun y hy => by
      obtain ⟨s, hs, rfl⟩ := List.mem_map.1 hy
      exact (hss s hs).2
    have ef : feedR [] false (sbB ss) = (ss.map Sb.bs, 0, [], false) := by
      unfold feedR
      rw [List.nil_append, hcut]; rfl
    rw [ef] at k ⊢
    refine ⟨_, _, _, _, rfl, cond_false rfl ?_⟩
    have hwant : RoX bytE none_ h45 want_ ss.length (ss.map Sb.bs) := ⟨ss, (k.sl (a := want_)).ro, fun s hs => ((hss s hs).1.in k), rfl, List.length_map _⟩
    refine CallsH.mono (lists_eq (El.ro (E := bytE) k.pull1) hwant (by show (ss.map Sb.bs).length < _; rw [List.length_map]; omega) (fun y hy => ?_)) ?_
    · obtain ⟨s, hs, rfl⟩ := List.mem_map.1 hy
      have := (hss s hs).2
      omega
    rintro _ _ ⟨rfl, rfl⟩
    refine ⟨_, rfl, cond_false (by simp) ?_⟩
    obtain ⟨F', G, kF, kG, d, hF, back⟩ := k.frameA
    refine CallsH.mono (rest_spec kF) ?_
    rintro _ _ ⟨rfl, rfl⟩
    clear back kF kG d hF
    refine ⟨_, rfl, cond_false rfl ?_⟩
    have hmin : minI (lm : Int) 1048576 = ((min lm 1048576 : Nat) : Int) := by unfold minI; split <;> omega
    refine cutA (bs := mo) hlm (lo := 0) (hi := min lm 1048576) (mx := cm) rfl hmin rfl (by omega) (by omega) (by omega) (Nat.le_refl _) fun a54 r54 l54 => ?_
    rw [List.drop_zero] at r54 l54
    rw [Nat.sub_zero] at l54 ⊢
    generalize hBm : mo.take (min lm 1048576) = Bm at r54 l54
    have k := k.sel 4 [2, 0, 1, 3] rfl (by decide) (L' := [BV all_ (sbB ss).length call_ (sbB ss), _, _, _]) (by rfl)
    rw [← l54]
    refine app_bytes (s := Bm) k (r54 _ _ (hmo.ro.in k)).sl (by omega) fun a57 c57 h56 k => ⟨_, _, _, rfl, ?_⟩
    have hA2l : (sbB ss ++ Bm).length = (sbB ss).length + Bm.length := List.length_append
    rw [← hA2l] at k ⊢
    have hA2 : (sbB ss ++ Bm).length ≤ 2200000 := by omega
    generalize sbB ss ++ Bm = A2 at k hA2 ⊢
    clear hA2l
    have k := k.only
    have hcapA : A2.length ≤ c57 := by
      obtain ⟨q, _, _⟩ := St.vec (a := a57) k
      exact q.le
    refine CallsH.mono new_spec ?_
    rintro _ h59 ⟨pb, rfl, k2⟩
    have k := k.add1 k2
    refine ⟨_, rfl, ?_⟩
    obtain ⟨F', G, kF, kG, d, hF, back⟩ := k.frame2
    refine CallsH.mono (feed_spec kF (kG.ro d (a := a57)) rfl (fun _ => by show 0 + A2.length ≤ _; omega)) ?_
    rintro _ h62 ⟨x2, cx2, rfl, k2⟩
    have k := back k2
    clear back kF kG d hF
    have ef2 : feedR [] false A2 = ((cut A2).1, if (cut A2).2.2 then 300 else 0, (cut A2).2.1, (cut A2).2.2) := by
      unfold feedR
      rw [List.nil_append]; rfl
    rw [ef2] at k ⊢
    refine ⟨_, _, _, _, rfl, ?_⟩
    refine CallsH.mono new_spec ?_
    rintro _ h66 ⟨pc, rfl, k2⟩
    have k := k.add1 k2
    have hcl := cuts_len _ A2 (Nat.lt_succ_self _)
    refine ⟨_, rfl, fun m h' o lo co last from_ i => ∃ (j pos : Nat), i = j ∧ j ≤ lc + 1 ∧ m = lc + 1 - j ∧ from_ = pos ∧ pos ≤ A2.length ∧ (j = lc + 1 → pos = A2.length) ∧ lo = (cut (A2.take pos)).1.length ∧ last = (if (cut (A2.take pos)).2.2 then 300 else 0) ∧
      St none_ h h' [ST pc (cut (A2.take pos)).2.1 (cut (A2.take pos)).2.2, bytE.L o (cut (A2.take pos)).1.length co (cut (A2.take pos)).1, ST pb (cut A2).2.1 (cut A2).2.2, bytE.L x2 (cut A2).1.length cx2 (cut A2).1, BV a57 A2.length c57 A2],
      ⟨_, 0, 0, rfl, by omega, rfl, rfl, by omega, fun h => by omega, ?_, ?_, ?_⟩, ?_⟩
    · rw [List.take_zero, cut_nil]; rfl
    · rw [List.take_zero, cut_nil]; rfl
    · rw [List.take_zero, cut_nil]
      exact (El.nil bytE k).pull1
    clear k
    rintro m h70 _ o lo co last from_ i ⟨j, pos, rfl, hj, rfl, rfl, hpos, hend, rfl, rfl, k⟩
    have hpl := cuts_len _ (A2.take pos) (Nat.lt_succ_self _)
    have htl : (A2.take pos).length = pos := by rw [List.length_take]; omega
    refine cond_split (fun hc => ?_) (fun hc => ?_)
    · have hjl : j ≤ lc := by
        have : (j : Int) ≤ lc := of_decide_eq_true hc
        omega
      refine ⟨fun h' to => ∃ to2 : Nat, to = to2 ∧ pos ≤ to2 ∧ to2 ≤ A2.length ∧ (j = lc → to2 = A2.length) ∧ h' = h70, ?_, ?_⟩
      · refine cond_split (fun hc => ?_) (fun hc => ?_)
        · have hjc : j < lc := Int.ofNat_lt.1 (of_decide_eq_true hc)
          refine (hcs.ext k.ext).one (f := fun n : Int => Value.int .i64 n) hlc (by omega) (by omega) fun ad n hn hcn => ⟨_, hcn, by omega, ?_⟩
          refine ⟨fun h' n' => ∃ n2 : Nat, n' = n2 ∧ n2 < 40 ∧ h' = h70, ?_, ?_⟩
          · have h1 : Int.tmod n 40 < 40 := by have := Int.tmod_lt_of_pos n (b := 40) (by omega); omega
            have h2 : -40 < Int.tmod n 40 := by
              have := Int.lt_tmod_of_pos n (b := 40) (by omega)
              omega
            refine cond_split (fun hc => ?_) (fun hc => ?_)
            · have h3 : Int.tmod n 40 < 0 := of_decide_eq_true hc
              refine ⟨(0 - Int.tmod n 40).toNat, ?_, by omega, rfl⟩
              rw [wrap_id (by omega) (by omega)]; omega
            · have h3 : ¬ Int.tmod n 40 < 0 := of_decide_eq_false hc
              exact ⟨(Int.tmod n 40).toNat, by omega, by omega, rfl⟩
          · rintro h81 _ n' ⟨n2, rfl, hn2, rfl⟩
            have ew : IntKind.i64.wrap ((pos : Int) + (n2 : Int)) = ((pos + n2 : Nat) : Int) := by rw [wrap_id (by omega) (by omega)]; omega
            rw [ew]
            refine cond_split (fun hc => ?_) (fun hc => ?_)
            · exact ⟨A2.length, rfl, hpos, Nat.le_refl _, fun _ => rfl, rfl⟩
            · have h3 : ¬ ((pos + n2 : Nat) : Int) > (A2.length : Int) := of_decide_eq_false hc
              exact ⟨pos + n2, rfl, by omega, by omega, fun h => by omega, rfl⟩
        · exact ⟨A2.length, rfl, hpos, Nat.le_refl _, fun _ => rfl, rfl⟩
      · rintro h84 _ to ⟨to2, rfl, hto, hto2, hlast, rfl⟩
        refine cutA (bs := A2) rfl (lo := pos) (hi := to2) (mx := c57) rfl rfl rfl hto hto2 (by omega) (Nat.le_refl _) fun a87 r87 l87 => ?_
        obtain ⟨F', G, kF, kG, d, hF, back⟩ := k.frame2
        refine CallsH.mono (feed_spec kF (r87 _ _ (kG.ro d (a := a57))) l87 (fun _ => by omega)) ?_
        rintro _ h89 ⟨x3, cx3, rfl, k2⟩
        have k := back k2
        clear back kF kG d hF
        have ex : A2.take to2 = A2.take pos ++ (A2.take to2).drop pos := by
          conv => lhs; rw [← List.take_append_drop pos (A2.take to2), List.take_take, Nat.min_eq_left hto]
        obtain ⟨s1, s2, s3, s4⟩ := feed_step (A2.take pos) ((A2.take to2).drop pos)
        rw [← ex] at s1 s2 s3
        have hpl2 := cuts_len _ (A2.take to2) (Nat.lt_succ_self _)
        have htl2 : (A2.take to2).length = to2 := by rw [List.length_take]; omega
        have hle2 := congrArg List.length s1
        rw [List.length_append] at hle2
        refine ⟨_, _, _, _, rfl, ?_⟩
        have k := k.sel 6 [2, 1, 0, 3, 4, 5] rfl (by decide) (L' := [bytE.L o _ co _, bytE.L x3 _ cx3 _, _, _, _, _]) (by rfl)
        refine El.cat (E := bytE) T48 k (by omega) fun o' co' h93 k => ⟨_, _, _, rfl, lc + 1 - (j + 1), by omega, j + 1, to2, by rw [wrap_id (by omega) (by omega)]; omega, by omega, rfl, rfl, hto2, fun h => hlast (by omega), by omega, ?_, ?_⟩
        · rw [s4, s3]
        · rw [s1, s2, s3, List.length_append]
          exact k.pull1
    · have hjl : j = lc + 1 := by
        have : ¬ (j : Int) ≤ lc := of_decide_eq_false hc
        omega
      have hp := hend hjl
      rw [hp, List.take_length] at k ⊢
      refine cond_true (by simp) ?_
      refine CallsH.mono (lists_eq (El.ro (E := bytE) k.pull1) (El.ro (E := bytE) k.pull3) (by omega) (fun y hy => ?_)) ?_
      · have := cut_mem_len _ A2 (Nat.lt_succ_self _) y hy
        omega
      rintro _ _ ⟨rfl, rfl⟩
      refine ⟨_, rfl, cond_true (by simp) ?_⟩
      obtain ⟨F', G, kF, kG, d, hF, back⟩ := k.frameA
      refine CallsH.mono (rest_spec kF) ?_
      rintro _ _ ⟨rfl, rfl⟩
      clear back kF kG d hF
      refine ⟨_, rfl, ?_⟩
      obtain ⟨F', G, kF, kG, d, hF, back⟩ := k.pull2.frameA
      refine CallsH.mono (rest_spec kF) ?_
      rintro _ _ ⟨rfl, rfl⟩
      exact ⟨_, rfl, by simp, k.ext⟩
  subst hBig
  have hge := sbB_ge ss
  have hal2 : (sbB ss).length < 1048576 := by
    have : ((sbB ss).length : Int) < 1048576 := of_decide_eq_true hc
    omega
  clear hc
  refine ⟨fun h' y all_ lall_ call_ want_ lw_ cw_ f lf cf e => ∃ (ss : List Sb), lall_ = (sbB ss).length ∧ lw_ = ss.length ∧ (∀ s ∈ ss, Ro none_ h s.a (bytesV s.bs) ∧ s.bs.length ≤ 65528) ∧ ss.length ≤ j + 1 ∧ (sbB ss).length ≤ 1048576 + 65536 ∧
    St none_ h h' [BV all_ (sbB ss).length call_ (sbB ss), A.vec 35 1 want_ ss.length cw_ (ss.flatMap sbV)], ?_, ?_⟩
  rotate_left
  · clear k hss hsl hal hal2
    rintro h34 _ y all_ _ call_ want_ _ cw_ f lf cf e ⟨ss, rfl, rfl, hss, hsl, hal, k⟩
    exact ⟨l - (j + 1), by omega, j + 1, ss, wrap_nat hjl (by omega), hjl, rfl, rfl, rfl, hss, hsl, hal, k⟩
  refine r.one k.ext (by omega) (by omega) fun ad s hs1 hc1 hr1 => ⟨_, _, _, hc1 0 _ rfl, ?_⟩
  rw [Int.toNat_natCast] at hs1
  refine CallsH.mono (frame_spec (hr1.in k).sl rfl) ?_
  rintro _ h17 ⟨a18, c18, rfl, k2⟩
  have k := k.add1 k2
  refine ⟨_, _, _, _, rfl, r.one k.ext (by omega) (by omega) fun ad s2 hs2 hc2 hr2 => ⟨_, _, _, hc2 0 _ rfl, ?_⟩⟩
  rw [Int.toNat_natCast] at hs2
  have e2 : s2.bs = s.bs := Option.some.inj (hs2.symm.trans hs1)
  rw [e2]
  by_cases hle : s.bs.length ≤ 65528
  · have ef : frameR s.bs = (frameB s.bs, 0) := if_neg (by omega)
    rw [ef] at k ⊢
    refine cond_false (by rw [decide_eq_true (show ((s.bs.length : Nat) : Int) ≤ 65528 by omega)]; rfl) (cond_true rfl ?_)
    refine r.one k.ext (by omega) (by omega) fun ad s3 hs3 hc3 hr3 => ⟨_, _, _, hc3 0 _ rfl, ?_⟩
    rw [Int.toNat_natCast] at hs3
    have e3 : s3.bs = s.bs := Option.some.inj (hs3.symm.trans hs1)
    rw [e3]
    have hfl := frameB_len s.bs
    refine cond_false (by rw [wrap_id (by omega) (by omega)]; simp only [hfl]; simp) ?_
    refine app_bytes (s := frameB s.bs) k.pull1 (k.sl (a := a18)) (by omega) fun a26 c26 h25 k => ⟨_, _, _, rfl, ?_⟩
    refine r.one k.ext (by omega) (by omega) fun ad s4 hs4 hc4 hr4 => ⟨_, _, _, hc4 0 _ rfl, k.vnew fun b29 h30 k => ?_⟩
    rw [Int.toNat_natCast] at hs4
    have e4 : s4.bs = s.bs := Option.some.inj (hs4.symm.trans hs1)
    have hsl4 : Sl h30 (some ⟨b29, 0, none⟩) (sbV s4) := k.slB (b := b29)
    refine k.pull3.app T48 T48.ut (by simp) (n := 1) (Src.slice hsl4 rfl) (fun v hv => by simp [sbV] at hv; subst hv; rfl) (by omega) fun a33 c33 h32 k => ⟨_, _, _, rfl, ss ++ [s4], ?_, by simp, ?_, by simp; omega, ?_, ?_⟩
    · rw [sbB_next, List.length_append, e4]
    · intro x hx
      rcases List.mem_append.1 hx with hx | hx
      · exact hss x hx
      · have hx := List.mem_singleton.1 hx
        subst hx
        exact ⟨hr4, by rw [e4]; exact hle⟩
    · rw [sbB_next, List.length_append, e4]; omega
    · rw [sbB_next, List.length_append, e4, List.length_append, List.flatMap_append]
      have k := k.pull2.only2
      have ee : [s4].flatMap sbV = sbV s4 := by simp
      rw [ee]
      exact k
  · have ef : frameR s.bs = ([], 2) := if_pos (by omega)
    rw [ef] at k ⊢
    refine cond_false (by rw [decide_eq_false (show ¬ ((s.bs.length : Nat) : Int) ≤ 65528 by omega)]; rfl) (cond_false rfl ?_)
    exact ⟨ss, rfl, rfl, hss, by omega, by omega, k.drop⟩
end Go.Proofs.YtgdgebmlcgohhaaDoor.F
