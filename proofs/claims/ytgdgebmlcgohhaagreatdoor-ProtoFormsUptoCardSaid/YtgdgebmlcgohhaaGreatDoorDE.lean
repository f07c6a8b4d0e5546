/- The document's writer of layer 30: what is put, as far as it is not too long. Conditions: none. -/
import Derived.Test.YtgdgebmlcgohhaaGreatDoorDD
namespace Go.Proofs.YtgdgebmlcgohhaaGreatDoor.F
open Go Go.VC Go.Proofs
set_option linter.unusedSimpArgs false
set_option linter.unusedVariables false
set_option maxRecDepth 100000
attribute [local irreducible] CallsH RunsTo PureTo

variable {S F G : Nat → Prop} {h0 h h1 : Heap} {L R L' : List A} {a b a1 a2 x : Option Addr} {l c l1 c1 l2 c2 p t b1 lx cx : Nat} {bs cs bs1 bs2 w xs : List UInt8} {err e1 : Int} {v : Val} {bad bad1 bad2 : Bool} {q q2 : Rp}
/-- As much of a text as is not too long. -/
structure Sat (w b : Bytes) : Prop where
  le : w.length ≤ 65528 → b = w
  gt : 65528 < w.length → 65528 < b.length
  len : b.length ≤ w.length
theorem Sat.refl (w : Bytes) : Sat w w := ⟨fun _ => rfl, id, Nat.le_refl _⟩
theorem Sat.full {b : Bytes} (s : Sat w b) (h : b.length ≤ 65528) : b = w := by
  by_cases hw : w.length ≤ 65528
  · exact s.le hw
  · have := s.gt (by omega); omega
theorem Sat.more {b : Bytes} (s : Sat w b) (h : 65528 < b.length) (y : Bytes) : Sat (w ++ y) b := by
  have h1 := s.len
  exact ⟨fun hw => by rw [List.length_append] at hw; omega, fun _ => h, by rw [List.length_append]; omega⟩
theorem Sat.part {x y : Bytes} (h : x = y ∨ 65528 < x.length ∧ x.length ≤ y.length) : Sat (w ++ y) (w ++ x) := by
  rcases h with rfl | ⟨h1, h2⟩
  · exact .refl _
  · exact ⟨fun hw => by rw [List.length_append] at hw; omega, fun _ => by rw [List.length_append]; omega, by rw [List.length_append, List.length_append]; omega⟩
def SW (w : Bytes) (a : Option Addr) (l c : Nat) : A := A.ex fun b : Bytes => A.fact (Sat w b ∧ b.length = l) (BV a l c b)
theorem SW.open (k : St S h0 h (SW w a l c :: R)) : ∃ b : Bytes, Sat w b ∧ b.length = l ∧ St S h0 h (BV a l c b :: R) := by
  obtain ⟨b, k⟩ := St.opens k
  obtain ⟨⟨h1, h2⟩, k⟩ := k.facts
  exact ⟨b, h1, h2, k⟩
theorem SW.close {b : Bytes} (s : Sat w b) (hl : b.length = l) (k : St S h0 h (BV a l c b :: R)) : St S h0 h (SW w a l c :: R) :=
  St.closes (f := fun b : Bytes => A.fact (Sat w b ∧ b.length = l) (BV a l c b)) (x := b) (St.mkfact ⟨s, hl⟩ k)
theorem dput_spec (k0 : Holds [SW w a l c, BV x lx cx xs] F h) (hx : xs.length = lx) (hb : w.length + xs.length ≤ 140737488300000) : CallsH Tryz.prog 81 #[.slice a l c, .slice x lx cx] h
    (fun v h' => ∃ a' l' c', v = .slice a' l' c' ∧ St F h h' [SW (w ++ xs) a' l' c']) := by
  refine vf81 _ _ _ _ _ _ h _ ?_
  unfold F81
  obtain ⟨b, hs, hl, k⟩ := SW.open (St.start k0)
  have hlen := hs.len
  refine cond_split (fun hc => ?_) (fun hc => ?_)
  · have hc : 65528 < l := by
      have : (l : Int) > 65528 := of_decide_eq_true hc
      omega
    exact ⟨a, l, c, rfl, (SW.close (hs.more (by omega) xs) hl k).only⟩
  · have hc : ¬ 65528 < l := by
      have : ¬ (l : Int) > 65528 := of_decide_eq_false hc
      omega
    have e := hs.full (by omega)
    subst e
    subst hx
    refine app_bytes k (k.sl (a := x)) (by omega) fun a' c' h' k => ⟨_, _, _, rfl, a', _, c', rfl, ?_⟩
    exact (SW.close (.refl _) (by rw [List.length_append, hl]) k).only
theorem put_go (k : St S h0 h (SW w a l c :: BV x lx cx xs :: R)) (hx : xs.length = lx) (hb : w.length + xs.length ≤ 140737488300000) {P : Option Addr → Nat → Nat → Heap → Prop}
    (q : ∀ a' l' c' h', St S h0 h' (SW (w ++ xs) a' l' c' :: R) → P a' l' c' h') : CallsH Tryz.prog 81 #[.slice a l c, .slice x lx cx] h (fun v h' => ∃ a6 la6 ca6, v = .slice a6 la6 ca6 ∧ P a6 la6 ca6 h') := by
  obtain ⟨F', G, kF, kG, d, hF, back⟩ := St.frame (L := [SW w a l c, BV x lx cx xs]) k
  refine CallsH.mono (dput_spec kF hx hb) ?_
  rintro _ h2 ⟨a', l', c', rfl, k2⟩
  exact ⟨a', l', c', rfl, q _ _ _ _ (back (L' := [_]) k2)⟩
theorem dnum_spec {n : Int} (hn : rng64 n) : CallsH Tryz.prog 82 #[.int .i64 n] h (fun v h' => ∃ a' c', v = .slice a' (putN n).length c' ∧ St none_ h h' [BV a' (putN n).length c' (putN n)]) := by
  refine vf82 _ h _ ?_
  unfold F82
  refine CallsH.mono (rputInt_spec hn.1 hn.2) ?_
  rintro _ h2 ⟨a', c', rfl, k⟩
  exact ⟨_, _, _, rfl, a', c', rfl, k⟩
theorem num_go {n : Int} (k : St S h0 h (SW w a l c :: R)) (hn : rng64 n) (hb : w.length + (putN n).length ≤ 140737488300000) {P : Option Addr → Nat → Nat → Heap → Prop}
    (q : ∀ a' l' c' h', St S h0 h' (SW (w ++ putN n) a' l' c' :: R) → P a' l' c' h') : CallsH Tryz.prog 82 #[.int .i64 n] h fun v1 h2 => ∃ (a3 : Option Addr) (la3 ca3 : Nat), v1 = .slice a3 la3 ca3 ∧
      CallsH Tryz.prog 81 #[.slice a l c, .slice a3 la3 ca3] h2 fun v4 h5 => ∃ (a6 : Option Addr) (la6 ca6 : Nat), v4 = .slice a6 la6 ca6 ∧ P a6 la6 ca6 h5 := by
  refine CallsH.mono (dnum_spec hn) ?_
  rintro _ h2 ⟨a3, c3, rfl, k2⟩
  exact ⟨a3, _, c3, rfl, put_go (k.add1 k2).pull1 rfl hb q⟩
theorem dtru_spec (t : Bool) : CallsH Tryz.prog 90 #[.bool t] h (fun v h' => ∃ a', v = .slice a' 1 1 ∧ St none_ h h' [BV a' 1 1 (truB t)]) := by
  refine vf90 _ h _ ?_
  unfold F90
  cases t
  · exact cond_false rfl ((St.fresh h).vnew (cs := (bytesV (truB false)).toArray) fun b11 h12 k => ⟨_, rfl, k.blkvec (n := 1) (sz := 1) rfl (by omega) (by omega)⟩)
  · exact cond_true rfl ((St.fresh h).vnew (cs := (bytesV (truB true)).toArray) fun b11 h12 k => ⟨_, rfl, k.blkvec (n := 1) (sz := 1) rfl (by omega) (by omega)⟩)
theorem tru_go {t : Bool} (k : St S h0 h (SW w a l c :: R)) (hb : w.length + (truB t).length ≤ 140737488300000) {P : Option Addr → Nat → Nat → Heap → Prop}
    (q : ∀ a' l' c' h', St S h0 h' (SW (w ++ truB t) a' l' c' :: R) → P a' l' c' h') : CallsH Tryz.prog 90 #[.bool t] h fun v1 h2 => ∃ (a3 : Option Addr) (la3 ca3 : Nat), v1 = .slice a3 la3 ca3 ∧
      CallsH Tryz.prog 81 #[.slice a l c, .slice a3 la3 ca3] h2 fun v4 h5 => ∃ (a6 : Option Addr) (la6 ca6 : Nat), v4 = .slice a6 la6 ca6 ∧ P a6 la6 ca6 h5 := by
  refine CallsH.mono (dtru_spec t) ?_
  rintro _ h2 ⟨a3, rfl, k2⟩
  exact ⟨a3, _, _, rfl, put_go (k.add1 k2).pull1 rfl hb q⟩
theorem dtex_spec {s : Bytes} (k0 : Holds [SW w a l c] F h) (hb : w.length + (putS s).length ≤ 140737488300000) : CallsH Tryz.prog 79 #[.slice a l c, .string (bA s)] h
    (fun v h' => ∃ a' l' c', v = .slice a' l' c' ∧ St F h h' [SW (w ++ putS s) a' l' c']) := by
  refine vf79 _ _ _ _ h _ ?_
  unfold F79
  rw [putS_len] at hb
  rw [bA_size]
  refine num_go (St.start k0) ⟨by omega, by omega⟩ (by omega) fun a' l' c' h5 k => ?_
  obtain ⟨b, hs, hl, k⟩ := SW.open k
  have hlen := hs.len
  rw [List.length_append] at hlen
  have es : w ++ putS s = w ++ putN s.length ++ s := by unfold putS; rw [List.append_assoc]
  refine cond_split (fun hc => ?_) (fun hc => ?_)
  · have hc : 65528 < l' := by
      have : (l' : Int) > 65528 := of_decide_eq_true hc
      omega
    refine ⟨a', l', c', rfl, ?_⟩
    rw [es]
    exact SW.close (hs.more (by omega) s) hl k
  · have hc : ¬ 65528 < l' := by
      have : ¬ (l' : Int) > 65528 := of_decide_eq_false hc
      omega
    have e := hs.full (by omega)
    subst e
    refine ⟨fun h' sb => ∃ t : Bytes, sb = bA t ∧ (t = s ∨ 65528 < t.length ∧ t.length ≤ s.length) ∧ St F h h' [BV a' l' c' (w ++ putN s.length)], ?_, ?_⟩
    · refine cond_split (fun hc => ?_) (fun hc => ?_)
      · have hc : (s.length : Int) > 65528 := of_decide_eq_true hc
        refine ⟨0, 65529, rfl, rfl, by omega, by rw [bA_size]; omega, s.take 65529, ?_, .inr ⟨?_, ?_⟩, k⟩
        · apply ByteArray.ext
          simp [bA, ByteArray.data_extract]
        · rw [List.length_take]; omega
        · rw [List.length_take]; omega
      · exact ⟨s, rfl, .inl rfl, k⟩
    · clear k
      rintro h9 _ sb ⟨t, rfl, ht, k⟩
      have htl : t.length ≤ s.length := by rcases ht with rfl | ht <;> omega
      refine app_text t k (by rw [← hl, List.length_append]; omega) fun a8 c8 h7 k => ⟨_, _, _, rfl, a8, _, c8, rfl, ?_⟩
      rw [es]
      exact SW.close (Sat.part ht) (by rw [List.length_append, hl]) k
theorem tex_go {s : Bytes} (k : St S h0 h (SW w a l c :: R)) (hb : w.length + (putS s).length ≤ 140737488300000) {P : Option Addr → Nat → Nat → Heap → Prop}
    (q : ∀ a' l' c' h', St S h0 h' (SW (w ++ putS s) a' l' c' :: R) → P a' l' c' h') : CallsH Tryz.prog 79 #[.slice a l c, .string (bA s)] h fun v h' => ∃ (a6 : Option Addr) (la6 ca6 : Nat), v = .slice a6 la6 ca6 ∧ P a6 la6 ca6 h' := by
  obtain ⟨F', G, kF, kG, d, hF, back⟩ := k.frameA
  refine CallsH.mono (dtex_spec kF hb) ?_
  rintro _ h2 ⟨a', l', c', rfl, k2⟩
  exact ⟨a', l', c', rfl, q _ _ _ _ (back k2)⟩
theorem dtexs_spec {ts : List Bytes} {lt ct : Nat} (k0 : Holds [SW w a l c] F h) (r : RoX texE F h x lt ts) (hb : w.length + (putL putS ts).length ≤ 140737488300000) : CallsH Tryz.prog 80 #[.slice a l c, .slice x lt ct] h
    (fun v h' => ∃ a' l' c', v = .slice a' l' c' ∧ St F h h' [SW (w ++ putL putS ts) a' l' c']) := by
  refine vf80 _ _ _ _ _ _ h _ ?_
  unfold F80
  have hlt := r.len
  have hp : (putL putS ts).length = (putN ts.length).length + (ts.flatMap putS).length := by unfold putL; rw [List.length_append]
  have hf := flat_ge (p := putS) (P := fun _ => True) (fun y _ => putS_pos y) (xs := ts) fun _ _ => trivial
  have ew : w ++ putL putS ts = w ++ putN lt ++ ts.flatMap putS := by unfold putL; rw [hlt, List.append_assoc]
  refine num_go (St.start k0) ⟨by omega, by omega⟩ (by rw [← hlt]; omega) fun a' l' c' h5 k => ?_
  refine ⟨fun m h' b ll cc i => ∃ j : Nat, i = j ∧ j ≤ lt ∧ m = lt - j ∧ St F h h' [SW (w ++ putN lt ++ (ts.take j).flatMap putS) b ll cc], ⟨_, 0, rfl, Nat.zero_le _, rfl, by rw [List.take_zero, List.flatMap_nil, List.append_nil]; exact k⟩, ?_⟩
  clear k
  rintro m h9 _ b ll cc i ⟨j, rfl, hj, rfl, k⟩
  have fin : (65528 < ll ∨ j = lt) → ∃ a' l' c', Value.slice b ll cc = .slice a' l' c' ∧ St F h h9 [SW (w ++ putL putS ts) a' l' c'] := fun he => by
    refine ⟨b, ll, cc, rfl, ?_⟩
    obtain ⟨y, hs, hl, k⟩ := SW.open k
    rw [ew]
    rcases he with he | he
    · have e2 : ts.flatMap putS = (ts.take j).flatMap putS ++ (ts.drop j).flatMap putS := by rw [← List.flatMap_append, List.take_append_drop]
      rw [e2, ← List.append_assoc]
      exact SW.close (hs.more (by omega) _) hl k
    · rw [List.take_of_length_le (by omega)] at hs
      exact SW.close hs hl k
  refine cond_split (fun hc => ?_) (fun hc => ?_)
  · have hjl : j < lt := Int.ofNat_lt.1 (of_decide_eq_true hc)
    refine cond_split (fun hc2 => ?_) (fun hc2 => ?_)
    · refine r.one k.ext (by omega) (by omega) fun ad s hs hcz hrd => ?_
      rw [Int.toNat_natCast] at hs
      have hle : ((ts.take j).flatMap putS).length + (putS s).length ≤ (ts.flatMap putS).length := flat_take_le (f := putS) hs
      refine ⟨_, hcz 0 _ rfl, tex_go k (by rw [List.length_append, List.length_append]; rw [hlt] at hp; omega) fun a' l' c' h' k => ⟨lt - (j + 1), by omega, j + 1, wrap_nat hjl (by omega), hjl, rfl, ?_⟩⟩
      rw [flat_next hs, ← List.append_assoc]
      exact k
    · exact fin (.inl (by have : ¬ (ll : Int) ≤ 65528 := of_decide_eq_false hc2; omega))
  · exact fin (.inr (by have : ¬ (j : Int) < lt := of_decide_eq_false hc; omega))
theorem texs_go {ts : List Bytes} {lt ct : Nat} (k : St S h0 h (SW w a l c :: R)) (r : RoX texE S h0 x lt ts) (hb : w.length + (putL putS ts).length ≤ 140737488300000) {P : Option Addr → Nat → Nat → Heap → Prop}
    (q : ∀ a' l' c' h', St S h0 h' (SW (w ++ putL putS ts) a' l' c' :: R) → P a' l' c' h') : CallsH Tryz.prog 80 #[.slice a l c, .slice x lt ct] h fun v h' => ∃ (a6 : Option Addr) (la6 ca6 : Nat), v = .slice a6 la6 ca6 ∧ P a6 la6 ca6 h' := by
  obtain ⟨F', G, kF, kG, d, hF, back⟩ := k.frameA
  refine CallsH.mono (dtexs_spec kF (r.at k.ext hF) hb) ?_
  rintro _ h2 ⟨a', l', c', rfl, k2⟩
  exact ⟨a', l', c', rfl, q _ _ _ _ (back k2)⟩
set_option maxHeartbeats 1000000 in
theorem dvals_spec {ts : List Val} {lt ct : Nat} (k0 : Holds [SW w a l c] F h) (r : Ro F h x (ts.flatMap valV)) (hlt : ts.length = lt) (hok : ∀ v ∈ ts, rngV v) (hb : w.length + (putL encW ts).length ≤ 140737488300000) : CallsH Tryz.prog 92 #[.slice a l c, .slice x lt ct] h
    (fun v h' => ∃ a' l' c', v = .slice a' l' c' ∧ St F h h' [SW (w ++ putL encW ts) a' l' c']) := by
  refine vf92 _ _ _ _ _ _ h _ ?_
  unfold F92
  have hp : (putL encW ts).length = (putN ts.length).length + (ts.flatMap encW).length := by unfold putL; rw [List.length_append]
  have hf := flat_ge (p := encW) (P := fun _ => True) (fun y _ => by unfold encW; rw [List.length_cons]; omega) (xs := ts) fun _ _ => trivial
  have ew : w ++ putL encW ts = w ++ putN lt ++ ts.flatMap encW := by unfold putL; rw [hlt, List.append_assoc]
  refine num_go (St.start k0) ⟨by omega, by omega⟩ (by rw [← hlt]; omega) fun a' l' c' h5 k => ?_
  refine ⟨fun m h' b ll cc i => ∃ j : Nat, i = j ∧ j ≤ lt ∧ m = lt - j ∧ St F h h' [SW (w ++ putN lt ++ (ts.take j).flatMap encW) b ll cc], ⟨_, 0, rfl, Nat.zero_le _, rfl, by rw [List.take_zero, List.flatMap_nil, List.append_nil]; exact k⟩, ?_⟩
  clear k
  rintro m h9 _ b ll cc i ⟨j, rfl, hj, rfl, k⟩
  obtain ⟨y, hs, hl, k⟩ := SW.open k
  have fin : (65528 < ll ∨ j = lt) → ∃ a' l' c', Value.slice b ll cc = .slice a' l' c' ∧ St F h h9 [SW (w ++ putL encW ts) a' l' c'] := fun he => by
    refine ⟨b, ll, cc, rfl, ?_⟩
    rw [ew]
    rcases he with he | he
    · have e2 : ts.flatMap encW = (ts.take j).flatMap encW ++ (ts.drop j).flatMap encW := by rw [← List.flatMap_append, List.take_append_drop]
      rw [e2, ← List.append_assoc]
      exact SW.close (hs.more (by omega) _) hl k
    · have hs2 := hs
      rw [List.take_of_length_le (by omega)] at hs2
      exact SW.close hs2 hl k
  refine cond_split (fun hc => ?_) (fun hc => ?_)
  · have hjl : j < lt := Int.ofNat_lt.1 (of_decide_eq_true hc)
    refine cond_split (fun hc2 => ?_) (fun hc2 => ?_)
    · have hle2 : ll ≤ 65528 := by have : (ll : Int) ≤ 65528 := of_decide_eq_true hc2; omega
      have e := hs.full (by omega)
      subst e
      clear fin
      refine ⟨fun h' b2 l2 c2 _ => ∃ z, ts[j]? = some z ∧ St F h h' [SW (w ++ putN lt ++ (ts.take j).flatMap encW ++ encW z) b2 l2 c2], ?_, ?_⟩
      · refine (r.mod k.ext).sl.row (f := valV) (sz := 4) (fun _ => rfl) (i := (j : Int)) (by omega) hlt (by omega) (by omega) fun ad z hz hcz => ?_
        rw [Int.toNat_natCast] at hz
        have hle := flat_take_le (f := encW) hz
        have hbl : (w ++ putN lt ++ (ts.take j).flatMap encW).length + (encW z).length ≤ 140737488300000 := by
          rw [List.length_append, List.length_append]
          rw [hlt] at hp; omega
        have hr := hok z (List.mem_of_getElem? hz)
        generalize w ++ putN lt ++ (ts.take j).flatMap encW = W at *
        have eb : (.int .u8 (IntKind.u8.wrap z.k) : Value) = byteV (UInt8.ofNat (z.k % 256).toNat) := by
          rw [byteV_of, wrap_u8]; congr 1; omega
        refine ⟨_, hcz 0 _ rfl, _, hcz 1 _ rfl, _, hcz 2 _ rfl, _, hcz 3 _ rfl, k.vnew fun b20 h21 k => k.vall (by rfl) (by rfl) fun h22 k => ⟨_, k.rd (by rfl), ?_⟩⟩
        rw [eb]
        refine k.vnew fun b24 h25 k => ?_
        refine app_byte k.pull2.pull1 (by omega) fun a28 c28 h27 k => ⟨_, _, _, rfl, ?_⟩
        generalize hB : UInt8.ofNat (z.k % 256).toNat = B at *
        have k := SW.close (w := W ++ [B]) (.refl _) (by rw [List.length_append, hl]; rfl) k
        have ee : W ++ encW z = W ++ [B] ++ (if z.k = 1 then putN z.n else if z.k = 2 then putS z.s else truB z.b) := by unfold encW; rw [hB, List.append_assoc]; rfl
        have hl2 : (W ++ [B]).length + (if z.k = 1 then putN z.n else if z.k = 2 then putS z.s else truB z.b).length ≤ 140737488300000 := by
          have := congrArg List.length ee
          rw [List.length_append, List.length_append] at this
          omega
        refine ⟨_, k.rd (by rfl), cond_split (fun hc => ?_) (fun hc => ?_)⟩
        · have hc : z.k = 1 := by simpa using hc
          rw [if_pos hc] at hl2 ee
          exact ⟨_, k.rd (by rfl), num_go k hr hl2 fun _ _ _ _ k => ⟨z, hz, by rw [ee]; exact k.only⟩⟩
        have h1 : z.k ≠ 1 := by simpa using hc
        rw [if_neg h1] at hl2 ee
        refine cond_split (fun hc => ?_) (fun hc => ?_)
        · have hc : z.k = 2 := by simpa using hc
          rw [if_pos hc] at hl2 ee
          exact ⟨_, k.rd (by rfl), tex_go k hl2 fun _ _ _ _ k => ⟨z, hz, by rw [ee]; exact k.only⟩⟩
        · have h2 : z.k ≠ 2 := by simpa using hc
          rw [if_neg h2] at hl2 ee
          exact ⟨_, k.rd (by rfl), tru_go k hl2 fun _ _ _ _ k => ⟨z, hz, by rw [ee]; exact k.only⟩⟩
      · clear k
        rintro h48 _ b2 l2 c2 _ ⟨z, hz, k⟩
        refine ⟨lt - (j + 1), by omega, j + 1, wrap_nat hjl (by omega), hjl, rfl, ?_⟩
        rw [flat_next hz, ← List.append_assoc]
        exact k
    · exact fin (.inl (by have : ¬ (ll : Int) ≤ 65528 := of_decide_eq_false hc2; omega))
  · exact fin (.inr (by have : ¬ (j : Int) < lt := of_decide_eq_false hc; omega))
theorem vals_go {ts : List Val} {lt ct : Nat} (k : St S h0 h (SW w a l c :: R)) (r : Ro S h0 x (ts.flatMap valV)) (hlt : ts.length = lt) (hok : ∀ v ∈ ts, rngV v) (hb : w.length + (putL encW ts).length ≤ 140737488300000) {P : Option Addr → Nat → Nat → Heap → Prop}
    (q : ∀ a' l' c' h', St S h0 h' (SW (w ++ putL encW ts) a' l' c' :: R) → P a' l' c' h') : CallsH Tryz.prog 92 #[.slice a l c, .slice x lt ct] h fun v h' => ∃ (a6 : Option Addr) (la6 ca6 : Nat), v = .slice a6 la6 ca6 ∧ P a6 la6 ca6 h' := by
  obtain ⟨F', G, kF, kG, d, hF, back⟩ := k.frameA
  refine CallsH.mono (dvals_spec kF (r.at k.ext hF) hlt hok hb) ?_
  rintro _ h2 ⟨a', l', c', rfl, k2⟩
  exact ⟨a', l', c', rfl, q _ _ _ _ (back k2)⟩
/-- May all values be? -/
theorem dsound_spec {ts : List Val} {lt ct : Nat} (r : Sl h x (ts.flatMap valV)) (hlt : ts.length = lt) (hb : lt < 9223372036854775807) : CallsH Tryz.prog 91 #[.slice x lt ct] h (fun v h' => v = .bool (ts.all validV) ∧ Ext h h') := by
  refine vf91 _ _ _ h _ ?_
  unfold F91
  refine ⟨fun m h' _ i => ∃ j : Nat, i = j ∧ j ≤ lt ∧ m = lt - j ∧ Ext h h' ∧ ∀ v ∈ ts.take j, validV v = true, ⟨_, 0, rfl, Nat.zero_le _, rfl, Mod.refl _ h, by simp⟩, ?_⟩
  rintro m h3 _ _ i ⟨j, rfl, hj, rfl, ex, hall⟩
  refine cond_split (fun hc => ?_) (fun hc => ?_)
  · have hjl : j < lt := Int.ofNat_lt.1 (of_decide_eq_true hc)
    refine (r.ext ex).row (f := valV) (sz := 4) (fun _ => rfl) (i := (j : Int)) (by omega) hlt (by omega) (by omega) fun ad z hz hcz => ?_
    rw [Int.toNat_natCast] at hz
    refine ⟨_, hcz 0 _ rfl, _, hcz 1 _ rfl, _, hcz 2 _ rfl, _, hcz 3 _ rfl, ?_⟩
    refine CallsH.mono (rvalid_spec z) ?_
    rintro _ h14 ⟨rfl, m2⟩
    refine ⟨_, rfl, ?_⟩
    cases hv : validV z
    · refine cond_true rfl ⟨?_, ex.then m2⟩
      have : ts.all validV = false := by
        rw [List.all_eq_false]
        exact ⟨z, List.mem_of_getElem? hz, by rw [hv]; simp⟩
      rw [this]
    · refine cond_false rfl ⟨lt - (j + 1), by omega, j + 1, wrap_nat hjl (by omega), hjl, rfl, ex.then m2, ?_⟩
      intro u hu
      rw [take_next hz] at hu
      rcases List.mem_append.1 hu with hu | hu
      · exact hall u hu
      · obtain rfl := List.mem_singleton.1 hu
        exact hv
  · have hjl : j = lt := by
      have : ¬ (j : Int) < lt := of_decide_eq_false hc
      omega
    subst hjl
    rw [List.take_of_length_le (by omega)] at hall
    refine ⟨?_, ex⟩
    have : ts.all validV = true := List.all_eq_true.2 hall
    rw [this]
end Go.Proofs.YtgdgebmlcgohhaaGreatDoor.F
