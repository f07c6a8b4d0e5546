/- The lists are written on. Conditions: none. -/
import Derived.Test.YtgdgebmlcgohhaaGreatDoorFD
namespace Go.Proofs.YtgdgebmlcgohhaaGreatDoor.F
open Go Go.VC Go.Proofs
set_option linter.unusedSimpArgs false
set_option linter.unusedVariables false
set_option maxRecDepth 100000
attribute [local irreducible] CallsH RunsTo PureTo

variable {S F G : Nat → Prop} {h0 h h1 : Heap} {L R L' : List A} {a b0 la wa : Option Addr} {l c l2 c2 p b cl cw q g : Nat} {bs cs : List UInt8} {n : Int}
theorem wrsub {e : Tr} (h1 : e.2.1 ≤ e.2.2) (h2 : e.2.2 < 9223372036854775808) : IntKind.i64.wrap ((e.2.2 : Int) - (e.2.1 : Int)) = ((e.2.2 - e.2.1 : Nat) : Int) := by rw [wrap_id (by omega) (by omega)]; omega
theorem on_even {m : Cm} {I : Nat} {e : Tr} (ok : CgOk 2 m) (hI : I % 2 = 0) (he : m.es[I]? = some e) : On m.bufs (I / 2) e.1 e.2.1 e.2.2 := by
  rcases ok.es I e he with ⟨h1, _⟩ | h1
  · exact absurd hI h1
  · exact h1
theorem rows_cap {ys : List Rb} {y : Rb} (k : St S h0 h (A.all (ys.map rbA) :: R)) (hy : y ∈ ys) : y.bs.length ≤ y.c ∧ y.c < 9223372036854775808 := by
  obtain ⟨s1, s2, e⟩ := List.append_of_mem hy
  have k1 := (St.allPerm k (L' := (y :: (s1 ++ s2)).map rbA) (by rw [e]; exact List.perm_middle.map _)).allOut
  have k1 : St S h0 h (A.vec 112 1 y.a y.bs.length y.c (y.bs.flatMap rcell) :: A.all ((s1 ++ s2).map rbA) :: R) := k1
  obtain ⟨v1, _, v3⟩ := St.vec (a := y.a) k1
  exact ⟨v1.le, v3⟩
theorem rows_app {ys : List Rb} {ns : List (Nat × Nat)} {y : Rb} {bb bn : Nat} (k : St S h0 h (A.blk bb (rcell bn).toArray 112 :: A.blk bn (valV (mkN y.t)).toArray 127 :: A.all (ys.map rbA) :: A.all (ns.map nbA) :: R)) (hy : y ∈ ys) (rb : ∀ y ∈ ys, ∀ b ∈ y.bs, (y.t, b) ∈ ns) (hb : (y.bs.length + 1) * 24 ≤ 140737488355328) {K : KV}
    (q : ∀ (ys' : List Rb) (ns' : List (Nat × Nat)) (y' : Rb) (h' : Heap), Cov (ys.map Rb.bf) (ys'.map Rb.bf) → y' ∈ ys' → y'.t = y.t → y'.bs.length = y.bs.length + 1 → (∀ y ∈ ys', ∀ b ∈ y.bs, (y.t, b) ∈ ns') → St S h0 h' (A.all (ys'.map rbA) :: A.all (ns'.map nbA) :: R) → K (.slice y'.a (y.bs.length + 1) y'.c) h') :
    RunsTo Tryz.prog (Builtin.append_ #[45, 45] 45 #[.slice y.a y.bs.length y.c, .slice (some ⟨bb, 0, none⟩) 1 1]) h K := by
  obtain ⟨s1, s2, e⟩ := List.append_of_mem hy
  have hsl : Sl h (some ⟨bb, 0, none⟩) (rcell bn) := k.slB (b := bb)
  have k1 := k.drop
  have k2 : St S h0 h (A.all (((y.t, bn) :: ns).map nbA) :: A.all (ys.map rbA) :: R) := St.allIn (x := nbA (y.t, bn)) (L := ns.map nbA) k1.pull2.pull1
  have k3 := (St.allPerm k2.pull1 (L' := (y :: (s1 ++ s2)).map rbA) (by rw [e]; exact List.perm_middle.map _)).allOut
  have k3 : St S h0 h (A.vec 112 1 y.a y.bs.length y.c (y.bs.flatMap rcell) :: A.all ((s1 ++ s2).map rbA) :: A.all (((y.t, bn) :: ns).map nbA) :: R) := k3
  have mem : ∀ x ∈ s1 ++ s2, x ∈ ys := fun x hx => by
    rw [e]; rcases List.mem_append.1 hx with h1 | h1
    · exact List.mem_append_left _ h1
    · exact List.mem_append_right _ (List.mem_cons_of_mem _ h1)
  have rb' : ∀ z ∈ ys, ∀ b ∈ z.bs, (z.t, b) ∈ (y.t, bn) :: ns := fun z hz b hb => List.mem_cons_of_mem _ (rb z hz b hb)
  have rbn : ∀ b ∈ y.bs ++ [bn], (y.t, b) ∈ (y.t, bn) :: ns := fun b hb => by
    rcases List.mem_append.1 hb with h1 | h1
    · exact rb' y hy b h1
    · rw [List.mem_singleton.1 h1]; exact List.mem_cons_self
  have cov0 : ∀ x ∈ ys.map Rb.bf, x = y.bf ∨ x ∈ (s1 ++ s2).map Rb.bf := fun x hx => by
    rw [e, List.map_append, List.map_cons] at hx
    rw [List.map_append]
    rcases List.mem_append.1 hx with h1 | h1
    · exact .inr (List.mem_append_left _ h1)
    · rcases List.mem_cons.1 h1 with h1 | h1
      · exact .inl h1
      · exact .inr (List.mem_append_right _ h1)
  have fl : (y.bs ++ [bn]).flatMap rcell = y.bs.flatMap rcell ++ rcell bn := by simp
  refine k3.bufRow TR30 TR30.ut (by simp) (Src.slice hsl rfl) (fun v hv => by rw [List.mem_singleton.1 hv]; rfl) (Nat.le_refl _) (fun h => absurd h (Nat.lt_irrefl _)) hb (fun h' hc k => ?_) fun a' c' h' hc k => ?_
  · rw [if_neg (Nat.lt_irrefl _), Nat.max_eq_right (by omega), ← fl] at k
    refine q (⟨y.t, y.a, y.c, y.bs ++ [bn]⟩ :: (s1 ++ s2)) ((y.t, bn) :: ns) ⟨y.t, y.a, y.c, y.bs ++ [bn]⟩ h' (fun x hx => ?_) List.mem_cons_self rfl (by simp) ?_ ?_
    · rcases cov0 x hx with rfl | h1
      · exact ⟨_, List.mem_cons_self, rfl, rfl, rfl, by show y.bs.length ≤ (y.bs ++ [bn]).length; simp⟩
      · exact ⟨x, List.mem_cons_of_mem _ h1, rfl, rfl, rfl, Nat.le_refl _⟩
    · rintro z hz b hbm
      rcases List.mem_cons.1 hz with rfl | h1
      · exact rbn b hbm
      · exact rb' z (mem z h1) b hbm
    · have k : St S h0 h' (rbA ⟨y.t, y.a, y.c, y.bs ++ [bn]⟩ :: A.all ((s1 ++ s2).map rbA) :: A.all (((y.t, bn) :: ns).map nbA) :: R) := by
        show St S h0 h' (A.vec 112 1 y.a (y.bs ++ [bn]).length y.c ((y.bs ++ [bn]).flatMap rcell) :: _)
        rw [List.length_append]; exact k
      exact k.allIn
  · rw [List.take_of_length_le (by rw [flat_rcell]; omega), ← fl] at k
    refine q (⟨y.t, a', c', y.bs ++ [bn]⟩ :: y :: (s1 ++ s2)) ((y.t, bn) :: ns) ⟨y.t, a', c', y.bs ++ [bn]⟩ h' (fun x hx => ?_) List.mem_cons_self rfl (by simp) ?_ ?_
    · rcases cov0 x hx with rfl | h1
      · exact ⟨_, List.mem_cons_of_mem _ List.mem_cons_self, rfl, rfl, rfl, Nat.le_refl _⟩
      · exact ⟨x, List.mem_cons_of_mem _ (List.mem_cons_of_mem _ h1), rfl, rfl, rfl, Nat.le_refl _⟩
    · rintro z hz b hbm
      rcases List.mem_cons.1 hz with rfl | h1
      · exact rbn b hbm
      · rcases List.mem_cons.1 h1 with rfl | h1
        · exact rb' _ hy b hbm
        · exact rb' z (mem z h1) b hbm
    · have k : St S h0 h' (rbA ⟨y.t, a', c', y.bs ++ [bn]⟩ :: rbA y :: A.all ((s1 ++ s2).map rbA) :: A.all (((y.t, bn) :: ns).map nbA) :: R) := by
        show St S h0 h' (A.vec 112 1 a' (y.bs ++ [bn]).length c' ((y.bs ++ [bn]).flatMap rcell) :: _)
        rw [List.length_append]; exact k
      exact (St.allIn (x := rbA ⟨y.t, a', c', y.bs ++ [bn]⟩) (L := (y :: (s1 ++ s2)).map rbA) (St.allIn (x := rbA y) (L := (s1 ++ s2).map rbA) k.pull2.pull2).pull1)
set_option maxHeartbeats 8000000 in
theorem grow_spec {m : Lk} {f0 f1 f2 : Nat} {e5 : Tr} {y5 : Rb} (ok : LkOk m) (k0 : Holds (ListsL p m) F h) (hq : LkL m q) (hb : q ≤ 4398046511104) (h0' : f0 % 2 = 0) (h1' : f1 % 2 = 0) (h2' : f2 % 2 = 0) (g0 : f0 ≤ m.x0.es.length) (g1 : f1 ≤ m.x1.es.length) (g2 : m.x2.es.length = f2 + 2)
    (he5 : m.x5.es[f2]? = some e5) (hy5 : y5 ∈ m.ys) (hb5 : y5.bf = ⟨f2 / 2, e5.1, e5.2.1, e5.2.2⟩) :
    CallsH Tryz.prog 62 #[.pointer (some ⟨p, 0, none⟩), .agg #[.int .i64 (f0 : Int), .int .i64 (f1 : Int), .int .i64 (f2 : Int)]] h (fun v h' => v = .tuple #[] ∧ ∃ m', LkOk m' ∧ LkL m' q ∧ St F h h' (ListsL p m')) := by
  refine vf62 _ _ _ _ h _ ?_
  unfold F62
  have lq0 := hq.x0
  have lq1 := hq.x1
  have lq2 := hq.x2
  have l3 := ok.l3
  have l4 := ok.l4
  have l5 := ok.l5
  have k := St.start k0
  refine k.vnew fun b1 h2 k => ?_
  have k : St F h h2 [A.blk b1 #[.int .i64 (f0 : Int), .int .i64 (f1 : Int), .int .i64 (f2 : Int)] 123, A.blk p (lkC m) 52, hdA 112 m.x0, hdA 54 m.x1, hdA 60 m.x2, hdA 55 m.x3, hdA 61 m.x4, hdA 45 m.x5, BfK KN0 m.x0.bufs, BfK KN1 m.x1.bufs, BfK KN2 m.x2.bufs, BfK KN3 m.x3.bufs, BfK KN4 m.x4.bufs, A.all (m.ys.map rbA), A.all (m.ns.map nbA)] := k
  have rdb : ∀ {h' : Heap} {R : List A} {i : Nat} {v : Value} {K : Addr → Prop}, St F h h' (A.blk b1 #[.int .i64 (f0 : Int), .int .i64 (f1 : Int), .int .i64 (f2 : Int)] 123 :: R) → i < 3 → ([Value.int .i64 (f0 : Int), .int .i64 (f1 : Int), .int .i64 (f2 : Int)])[i]? = some v → (cellH h' ⟨b1, i, none⟩ = some v → K ⟨b1, i, none⟩) → VIdx (some ⟨b1, 0, none⟩) 3 (i : Int) 1 K := fun k hi hv q => by
    refine ⟨by omega, by omega, VSome.mk ?_⟩
    rw [Int.toNat_natCast, VC.add_plain, Nat.zero_add, Nat.mul_one]
    refine q (k.rd ?_)
    simpa using hv
  have okc0 : CgOk 2 ⟨m.x0.a, m.x0.c, m.x0.es, m.x0.bufs⟩ := ok.x0
  refine rdb k (i := 0) (by omega) rfl fun hcell0 => ⟨_, hcell0, ?_⟩
  refine ⟨fun mm h' i => ∃ (j : Nat) (es : List Tr) (bf : List (Bf Nat)), i = ((f0 + 2 * j : Nat) : Int) ∧ f0 + 2 * j ≤ m.x0.es.length + 1 ∧ mm = m.x0.es.length + 2 - (f0 + 2 * j) ∧ es.length = m.x0.es.length ∧ CgOk 2 ⟨m.x0.a, m.x0.c, es, bf⟩ ∧
    St F h h' [A.blk b1 #[.int .i64 (f0 : Int), .int .i64 (f1 : Int), .int .i64 (f2 : Int)] 123, A.blk p (lkC m) 52, A.vec 112 1 m.x0.a m.x0.es.length m.x0.c (es.map trV), A.vec 54 1 m.x1.a m.x1.es.length m.x1.c (m.x1.es.map trV), A.vec 60 1 m.x2.a m.x2.es.length m.x2.c (m.x2.es.map trV), A.vec 55 1 m.x3.a m.x3.es.length m.x3.c (m.x3.es.map trV), A.vec 61 1 m.x4.a m.x4.es.length m.x4.c (m.x4.es.map trV), A.vec 45 1 m.x5.a m.x5.es.length m.x5.c (m.x5.es.map trV), BfK KN0 bf, BfK KN1 m.x1.bufs, BfK KN2 m.x2.bufs, BfK KN3 m.x3.bufs, BfK KN4 m.x4.bufs, A.all (m.ys.map rbA), A.all (m.ns.map nbA)], ⟨_, 0, m.x0.es, m.x0.bufs, rfl, by omega, rfl, rfl, okc0, k⟩, ?_⟩
  clear k okc0
  rintro mm hh _ i ⟨j, es0, bf0, rfl, hj, rfl, hes0, okc0, k⟩
  refine VSome.mk ⟨_, _, _, k.rd (by rfl), cond_split (fun hc => ?_) (fun hc => ?_)⟩
  · have hlt : f0 + 2 * j < m.x0.es.length := Int.ofNat_lt.1 (of_decide_eq_true hc)
    generalize hI : f0 + 2 * j = I at *
    have hI2 : I % 2 = 0 := by omega
    have hev := okc0.ev
    have hI1 : I + 1 < m.x0.es.length := by have : es0.length % 2 = 0 := hev; omega
    obtain ⟨e, he⟩ : ∃ e, es0[I]? = some e := ⟨_, List.getElem?_eq_getElem (by omega)⟩
    have hsm : e.2.1 ≤ 1099511627776 := okc0.sm I e hI2 he
    have hon : On bf0 (I / 2) e.1 e.2.1 e.2.2 := on_even okc0 hI2 he
    have k := k.sel 15 [2, 8, 0, 1, 3, 4, 5, 6, 7, 9, 10, 11, 12, 13, 14] rfl (by decide) (L' := [A.vec 112 1 m.x0.a m.x0.es.length m.x0.c (es0.map trV), BfK KN0 bf0, A.blk b1 #[.int .i64 (f0 : Int), .int .i64 (f1 : Int), .int .i64 (f2 : Int)] 123, A.blk p (lkC m) 52, A.vec 54 1 m.x1.a m.x1.es.length m.x1.c (m.x1.es.map trV), A.vec 60 1 m.x2.a m.x2.es.length m.x2.c (m.x2.es.map trV), A.vec 55 1 m.x3.a m.x3.es.length m.x3.c (m.x3.es.map trV), A.vec 61 1 m.x4.a m.x4.es.length m.x4.c (m.x4.es.map trV), A.vec 45 1 m.x5.a m.x5.es.length m.x5.c (m.x5.es.map trV), BfK KN1 m.x1.bufs, BfK KN2 m.x2.bufs, BfK KN3 m.x3.bufs, BfK KN4 m.x4.bufs, A.all (m.ys.map rbA), A.all (m.ns.map nbA)]) (by rfl)
    obtain ⟨_, hlc, hcap⟩ := BfK.sl (K := KN0) k.pull1 hon
    refine VSome.mk ⟨_, _, _, k.rd (by rfl), tr_one (k.sl (a := m.x0.a)) hes0 he fun ad hcd => ⟨_, _, _, hcd, ?_⟩⟩
    refine ⟨fun m3 h' a' l' c' x => ∃ (r : Nat) (bf2 : List (Bf Nat)), x = r ∧ r ≤ min (e.2.2 - e.2.1) 70000 ∧ m3 = min (e.2.2 - e.2.1) 70000 - r ∧ l' = e.2.1 + r ∧ Cov bf0 bf2 ∧ On bf2 (I / 2) a' (e.2.1 + r) c' ∧
      St F h h' [A.vec 112 1 m.x0.a m.x0.es.length m.x0.c (es0.map trV), BfK KN0 bf2, A.blk b1 #[.int .i64 (f0 : Int), .int .i64 (f1 : Int), .int .i64 (f2 : Int)] 123, A.blk p (lkC m) 52, A.vec 54 1 m.x1.a m.x1.es.length m.x1.c (m.x1.es.map trV), A.vec 60 1 m.x2.a m.x2.es.length m.x2.c (m.x2.es.map trV), A.vec 55 1 m.x3.a m.x3.es.length m.x3.c (m.x3.es.map trV), A.vec 61 1 m.x4.a m.x4.es.length m.x4.c (m.x4.es.map trV), A.vec 45 1 m.x5.a m.x5.es.length m.x5.c (m.x5.es.map trV), BfK KN1 m.x1.bufs, BfK KN2 m.x2.bufs, BfK KN3 m.x3.bufs, BfK KN4 m.x4.bufs, A.all (m.ys.map rbA), A.all (m.ns.map nbA)], ⟨_, 0, bf0, rfl, Nat.zero_le _, rfl, rfl, Cov.refl _, hon, k⟩, ?_⟩
    clear k
    rintro m3 h19 _ a' l' c' x ⟨r, bf2, rfl, hr, rfl, rfl, cov, on2, k⟩
    refine VSome.mk ⟨_, _, _, k.rd (by rfl), tr_one (k.sl (a := m.x0.a)) hes0 he fun ad1 hc1 => ⟨_, _, _, hc1, VSome.mk ⟨_, _, _, k.rd (by rfl), tr_one (k.sl (a := m.x0.a)) hes0 he fun ad2 hc2 => ⟨_, _, _, hc2, ?_⟩⟩⟩⟩
    rw [wrsub hlc hcap]
    refine CallsH.mono (room_spec (e.2.2 - e.2.1)) ?_
    rintro _ _ ⟨rfl, rfl⟩
    refine ⟨_, rfl, cond_split (fun hc => ?_) (fun hc => ?_)⟩
    · have hrl : r < min (e.2.2 - e.2.1) 70000 := Int.ofNat_lt.1 (of_decide_eq_true hc)
      refine CallsH.mono (num_spec I (by omega)) ?_
      rintro _ _ ⟨rfl, rfl⟩
      refine ⟨_, rfl, k.vnew fun b38 h39 k => ?_⟩
      have hs : Sl h39 (some ⟨b38, 0, none⟩) (KN0.f (I / 2) (e.2.1 + r)) := k.slB (b := b38)
      refine BfK.app (K := KN0) T25 T25.ut (by simp) k.pull2 on2 (Src.slice hs rfl) (by omega) fun bf3 a2 c2 h2 cov2 on3 k => ⟨_, _, _, rfl, min (e.2.2 - e.2.1) 70000 - (r + 1), by omega, r + 1, bf3, wrap_nat hrl (by omega), hrl, rfl, rfl, cov.trans cov2, on3, ?_⟩
      exact (k.sel 16 [1, 2, 0, 3, 4, 5, 6, 7, 8, 9, 10, 11, 12, 13, 14, 15] rfl (by decide) (L' := [_, _, _, _, _, _, _, _, _, _, _, _, _, _, _, _]) (by rfl)).drop
    · have hrl : r = min (e.2.2 - e.2.1) 70000 := by
        have : ¬ (r : Int) < ((min (e.2.2 - e.2.1) 70000 : Nat) : Int) := of_decide_eq_false hc
        omega
      refine VSome.mk ⟨_, _, _, k.rd (by rfl), ?_⟩
      have ew : IntKind.i64.wrap ((I : Int) + 1) = ((I + 1 : Nat) : Int) := wrap_nat (m := I + 1) (by omega) (by omega)
      have ew2 : IntKind.i64.wrap ((I : Int) + 2) = ((I + 2 : Nat) : Int) := by rw [wrap_id (by omega) (by omega)]; omega
      rw [ew, ew2]
      refine tr_set (e := (a', e.2.1 + r, c')) k hes0 (by omega) fun h46 k => ⟨m.x0.es.length + 2 - (I + 2), by omega, j + 1, es0.set (I + 1) (a', e.2.1 + r, c'), bf2, by congr 1; omega, by omega, by congr 1; omega, by rw [List.length_set]; exact hes0, CgOk.set (e := (a', e.2.1 + r, c')) okc0 (by omega) hI2 (by omega) (by omega) cov on2, ?_⟩
      exact k.sel 15 [2, 3, 0, 4, 5, 6, 7, 8, 1, 9, 10, 11, 12, 13, 14] rfl (by decide) (L' := [_, _, _, _, _, _, _, _, _, _, _, _, _, _, _]) (by rfl)
  clear hc hj
  have okc1 : CgOk 2 ⟨m.x1.a, m.x1.c, m.x1.es, m.x1.bufs⟩ := ok.x1
  refine rdb k (i := 1) (by omega) rfl fun hcell1 => ⟨_, hcell1, ?_⟩
  refine ⟨fun mm h' i => ∃ (j : Nat) (es : List Tr) (bf : List (Bf Nat)), i = ((f1 + 2 * j : Nat) : Int) ∧ f1 + 2 * j ≤ m.x1.es.length + 1 ∧ mm = m.x1.es.length + 2 - (f1 + 2 * j) ∧ es.length = m.x1.es.length ∧ CgOk 2 ⟨m.x1.a, m.x1.c, es, bf⟩ ∧
    St F h h' [A.blk b1 #[.int .i64 (f0 : Int), .int .i64 (f1 : Int), .int .i64 (f2 : Int)] 123, A.blk p (lkC m) 52, A.vec 112 1 m.x0.a m.x0.es.length m.x0.c (es0.map trV), A.vec 54 1 m.x1.a m.x1.es.length m.x1.c (es.map trV), A.vec 60 1 m.x2.a m.x2.es.length m.x2.c (m.x2.es.map trV), A.vec 55 1 m.x3.a m.x3.es.length m.x3.c (m.x3.es.map trV), A.vec 61 1 m.x4.a m.x4.es.length m.x4.c (m.x4.es.map trV), A.vec 45 1 m.x5.a m.x5.es.length m.x5.c (m.x5.es.map trV), BfK KN0 bf0, BfK KN1 bf, BfK KN2 m.x2.bufs, BfK KN3 m.x3.bufs, BfK KN4 m.x4.bufs, A.all (m.ys.map rbA), A.all (m.ns.map nbA)], ⟨_, 0, m.x1.es, m.x1.bufs, rfl, by omega, rfl, rfl, okc1, k⟩, ?_⟩
  clear k okc1
  rintro mm hh _ i ⟨j, es1, bf1, rfl, hj, rfl, hes1, okc1, k⟩
  refine VSome.mk ⟨_, _, _, k.rd (by rfl), cond_split (fun hc => ?_) (fun hc => ?_)⟩
  · have hlt : f1 + 2 * j < m.x1.es.length := Int.ofNat_lt.1 (of_decide_eq_true hc)
    generalize hI : f1 + 2 * j = I at *
    have hI2 : I % 2 = 0 := by omega
    have hev := okc1.ev
    have hI1 : I + 1 < m.x1.es.length := by have : es1.length % 2 = 0 := hev; omega
    obtain ⟨e, he⟩ : ∃ e, es1[I]? = some e := ⟨_, List.getElem?_eq_getElem (by omega)⟩
    have hsm : e.2.1 ≤ 1099511627776 := okc1.sm I e hI2 he
    have hon : On bf1 (I / 2) e.1 e.2.1 e.2.2 := on_even okc1 hI2 he
    have k := k.sel 15 [3, 9, 0, 1, 2, 4, 5, 6, 7, 8, 10, 11, 12, 13, 14] rfl (by decide) (L' := [A.vec 54 1 m.x1.a m.x1.es.length m.x1.c (es1.map trV), BfK KN1 bf1, A.blk b1 #[.int .i64 (f0 : Int), .int .i64 (f1 : Int), .int .i64 (f2 : Int)] 123, A.blk p (lkC m) 52, A.vec 112 1 m.x0.a m.x0.es.length m.x0.c (es0.map trV), A.vec 60 1 m.x2.a m.x2.es.length m.x2.c (m.x2.es.map trV), A.vec 55 1 m.x3.a m.x3.es.length m.x3.c (m.x3.es.map trV), A.vec 61 1 m.x4.a m.x4.es.length m.x4.c (m.x4.es.map trV), A.vec 45 1 m.x5.a m.x5.es.length m.x5.c (m.x5.es.map trV), BfK KN0 bf0, BfK KN2 m.x2.bufs, BfK KN3 m.x3.bufs, BfK KN4 m.x4.bufs, A.all (m.ys.map rbA), A.all (m.ns.map nbA)]) (by rfl)
    obtain ⟨_, hlc, hcap⟩ := BfK.sl (K := KN1) k.pull1 hon
    refine VSome.mk ⟨_, _, _, k.rd (by rfl), tr_one (k.sl (a := m.x1.a)) hes1 he fun ad hcd => ⟨_, _, _, hcd, ?_⟩⟩
    refine ⟨fun m3 h' a' l' c' x => ∃ (r : Nat) (bf2 : List (Bf Nat)), x = r ∧ r ≤ min (e.2.2 - e.2.1) 70000 ∧ m3 = min (e.2.2 - e.2.1) 70000 - r ∧ l' = e.2.1 + r ∧ Cov bf1 bf2 ∧ On bf2 (I / 2) a' (e.2.1 + r) c' ∧
      St F h h' [A.vec 54 1 m.x1.a m.x1.es.length m.x1.c (es1.map trV), BfK KN1 bf2, A.blk b1 #[.int .i64 (f0 : Int), .int .i64 (f1 : Int), .int .i64 (f2 : Int)] 123, A.blk p (lkC m) 52, A.vec 112 1 m.x0.a m.x0.es.length m.x0.c (es0.map trV), A.vec 60 1 m.x2.a m.x2.es.length m.x2.c (m.x2.es.map trV), A.vec 55 1 m.x3.a m.x3.es.length m.x3.c (m.x3.es.map trV), A.vec 61 1 m.x4.a m.x4.es.length m.x4.c (m.x4.es.map trV), A.vec 45 1 m.x5.a m.x5.es.length m.x5.c (m.x5.es.map trV), BfK KN0 bf0, BfK KN2 m.x2.bufs, BfK KN3 m.x3.bufs, BfK KN4 m.x4.bufs, A.all (m.ys.map rbA), A.all (m.ns.map nbA)], ⟨_, 0, bf1, rfl, Nat.zero_le _, rfl, rfl, Cov.refl _, hon, k⟩, ?_⟩
    clear k
    rintro m3 h19 _ a' l' c' x ⟨r, bf2, rfl, hr, rfl, rfl, cov, on2, k⟩
    refine VSome.mk ⟨_, _, _, k.rd (by rfl), tr_one (k.sl (a := m.x1.a)) hes1 he fun ad1 hc1 => ⟨_, _, _, hc1, VSome.mk ⟨_, _, _, k.rd (by rfl), tr_one (k.sl (a := m.x1.a)) hes1 he fun ad2 hc2 => ⟨_, _, _, hc2, ?_⟩⟩⟩⟩
    rw [wrsub hlc hcap]
    refine CallsH.mono (room_spec (e.2.2 - e.2.1)) ?_
    rintro _ _ ⟨rfl, rfl⟩
    refine ⟨_, rfl, cond_split (fun hc => ?_) (fun hc => ?_)⟩
    · have hrl : r < min (e.2.2 - e.2.1) 70000 := Int.ofNat_lt.1 (of_decide_eq_true hc)
      refine CallsH.mono (name_spec61 I (by omega)) ?_
      rintro _ h36 ⟨rfl, mx⟩
      have k := k.next mx
      refine ⟨_, rfl, k.vnew fun b38 h39 k => ?_⟩
      have hs : Sl h39 (some ⟨b38, 0, none⟩) (KN1.f (I / 2) (e.2.1 + r)) := k.slB (b := b38)
      refine BfK.app (K := KN1) T23 T23.ut (by simp) k.pull2 on2 (Src.slice hs rfl) (by omega) fun bf3 a2 c2 h2 cov2 on3 k => ⟨_, _, _, rfl, min (e.2.2 - e.2.1) 70000 - (r + 1), by omega, r + 1, bf3, wrap_nat hrl (by omega), hrl, rfl, rfl, cov.trans cov2, on3, ?_⟩
      exact (k.sel 16 [1, 2, 0, 3, 4, 5, 6, 7, 8, 9, 10, 11, 12, 13, 14, 15] rfl (by decide) (L' := [_, _, _, _, _, _, _, _, _, _, _, _, _, _, _, _]) (by rfl)).drop
    · have hrl : r = min (e.2.2 - e.2.1) 70000 := by
        have : ¬ (r : Int) < ((min (e.2.2 - e.2.1) 70000 : Nat) : Int) := of_decide_eq_false hc
        omega
      refine VSome.mk ⟨_, _, _, k.rd (by rfl), ?_⟩
      have ew : IntKind.i64.wrap ((I : Int) + 1) = ((I + 1 : Nat) : Int) := wrap_nat (m := I + 1) (by omega) (by omega)
      have ew2 : IntKind.i64.wrap ((I : Int) + 2) = ((I + 2 : Nat) : Int) := by rw [wrap_id (by omega) (by omega)]; omega
      rw [ew, ew2]
      refine tr_set (e := (a', e.2.1 + r, c')) k hes1 (by omega) fun h46 k => ⟨m.x1.es.length + 2 - (I + 2), by omega, j + 1, es1.set (I + 1) (a', e.2.1 + r, c'), bf2, by congr 1; omega, by omega, by congr 1; omega, by rw [List.length_set]; exact hes1, CgOk.set (e := (a', e.2.1 + r, c')) okc1 (by omega) hI2 (by omega) (by omega) cov on2, ?_⟩
      exact k.sel 15 [2, 3, 4, 0, 5, 6, 7, 8, 9, 1, 10, 11, 12, 13, 14] rfl (by decide) (L' := [_, _, _, _, _, _, _, _, _, _, _, _, _, _, _]) (by rfl)
  clear hc hj
  refine rdb k (i := 2) (by omega) rfl fun hcell2 => ⟨_, hcell2, ?_⟩
  refine ⟨fun mm h' i => (i = ((f2 : Nat) : Int) ∧ mm = 1 ∧ St F h h' [A.blk b1 #[.int .i64 (f0 : Int), .int .i64 (f1 : Int), .int .i64 (f2 : Int)] 123, A.blk p (lkC m) 52, A.vec 112 1 m.x0.a m.x0.es.length m.x0.c (es0.map trV), A.vec 54 1 m.x1.a m.x1.es.length m.x1.c (es1.map trV), A.vec 60 1 m.x2.a m.x2.es.length m.x2.c (m.x2.es.map trV), A.vec 55 1 m.x3.a m.x3.es.length m.x3.c (m.x3.es.map trV), A.vec 61 1 m.x4.a m.x4.es.length m.x4.c (m.x4.es.map trV), A.vec 45 1 m.x5.a m.x5.es.length m.x5.c (m.x5.es.map trV), BfK KN0 bf0, BfK KN1 bf1, BfK KN2 m.x2.bufs, BfK KN3 m.x3.bufs, BfK KN4 m.x4.bufs, A.all (m.ys.map rbA), A.all (m.ns.map nbA)]) ∨ (i = ((f2 + 2 : Nat) : Int) ∧ mm = 0 ∧ ∃ m', LkOk m' ∧ LkL m' q ∧ m'.x2.es.length = f2 + 2 ∧ St F h h' (A.blk b1 #[.int .i64 (f0 : Int), .int .i64 (f1 : Int), .int .i64 (f2 : Int)] 123 :: ListsL p m')), ⟨_, .inl ⟨rfl, rfl, k⟩⟩, ?_⟩
  clear k
  rintro mm h95 _ i (⟨rfl, rfl, k⟩ | ⟨rfl, rfl, m', ok', lq', hl', k⟩)
  rotate_left
  · refine VSome.mk ⟨_, _, _, k.rd (by rfl), cond_false (by rw [hl']; exact decide_eq_false (by omega)) ?_⟩
    exact ⟨rfl, m', ok', lq', k.drop⟩
  refine VSome.mk ⟨_, _, _, k.rd (by rfl), cond_true (by rw [g2]; exact decide_eq_true (by omega)) ?_⟩
  obtain ⟨e2, he2⟩ : ∃ e, m.x2.es[f2]? = some e := ⟨_, List.getElem?_eq_getElem (by omega)⟩
  have hsm2 : e2.2.1 ≤ 1099511627776 := ok.x2.sm f2 e2 h2' he2
  have hon2 : On m.x2.bufs (f2 / 2) e2.1 e2.2.1 e2.2.2 := on_even ok.x2 h2' he2
  obtain ⟨e3, he3⟩ : ∃ e, m.x3.es[f2]? = some e := ⟨_, List.getElem?_eq_getElem (by omega)⟩
  have hsm3 : e3.2.1 ≤ 1099511627776 := ok.x3.sm f2 e3 h2' he3
  have hon3 : On m.x3.bufs (f2 / 2) e3.1 e3.2.1 e3.2.2 := on_even ok.x3 h2' he3
  obtain ⟨e4, he4⟩ : ∃ e, m.x4.es[f2]? = some e := ⟨_, List.getElem?_eq_getElem (by omega)⟩
  have hsm4 : e4.2.1 ≤ 1099511627776 := ok.x4.sm f2 e4 h2' he4
  have hon4 : On m.x4.bufs (f2 / 2) e4.1 e4.2.1 e4.2.2 := on_even ok.x4 h2' he4
  have kk2 := k.sel 15 [4, 10, 0, 1, 2, 3, 5, 6, 7, 8, 9, 11, 12, 13, 14] rfl (by decide) (L' := [A.vec 60 1 m.x2.a m.x2.es.length m.x2.c (m.x2.es.map trV), BfK KN2 m.x2.bufs, A.blk b1 #[.int .i64 (f0 : Int), .int .i64 (f1 : Int), .int .i64 (f2 : Int)] 123, A.blk p (lkC m) 52, A.vec 112 1 m.x0.a m.x0.es.length m.x0.c (es0.map trV), A.vec 54 1 m.x1.a m.x1.es.length m.x1.c (es1.map trV), A.vec 55 1 m.x3.a m.x3.es.length m.x3.c (m.x3.es.map trV), A.vec 61 1 m.x4.a m.x4.es.length m.x4.c (m.x4.es.map trV), A.vec 45 1 m.x5.a m.x5.es.length m.x5.c (m.x5.es.map trV), BfK KN0 bf0, BfK KN1 bf1, BfK KN3 m.x3.bufs, BfK KN4 m.x4.bufs, A.all (m.ys.map rbA), A.all (m.ns.map nbA)]) (by rfl)
  obtain ⟨_, hlc2, hcap2⟩ := BfK.sl (K := KN2) kk2.pull1 hon2
  have kk3 := k.sel 15 [5, 11, 0, 1, 2, 3, 4, 6, 7, 8, 9, 10, 12, 13, 14] rfl (by decide) (L' := [A.vec 55 1 m.x3.a m.x3.es.length m.x3.c (m.x3.es.map trV), BfK KN3 m.x3.bufs, A.blk b1 #[.int .i64 (f0 : Int), .int .i64 (f1 : Int), .int .i64 (f2 : Int)] 123, A.blk p (lkC m) 52, A.vec 112 1 m.x0.a m.x0.es.length m.x0.c (es0.map trV), A.vec 54 1 m.x1.a m.x1.es.length m.x1.c (es1.map trV), A.vec 60 1 m.x2.a m.x2.es.length m.x2.c (m.x2.es.map trV), A.vec 61 1 m.x4.a m.x4.es.length m.x4.c (m.x4.es.map trV), A.vec 45 1 m.x5.a m.x5.es.length m.x5.c (m.x5.es.map trV), BfK KN0 bf0, BfK KN1 bf1, BfK KN2 m.x2.bufs, BfK KN4 m.x4.bufs, A.all (m.ys.map rbA), A.all (m.ns.map nbA)]) (by rfl)
  obtain ⟨_, hlc3, hcap3⟩ := BfK.sl (K := KN3) kk3.pull1 hon3
  have kk4 := k.sel 15 [6, 12, 0, 1, 2, 3, 4, 5, 7, 8, 9, 10, 11, 13, 14] rfl (by decide) (L' := [A.vec 61 1 m.x4.a m.x4.es.length m.x4.c (m.x4.es.map trV), BfK KN4 m.x4.bufs, A.blk b1 #[.int .i64 (f0 : Int), .int .i64 (f1 : Int), .int .i64 (f2 : Int)] 123, A.blk p (lkC m) 52, A.vec 112 1 m.x0.a m.x0.es.length m.x0.c (es0.map trV), A.vec 54 1 m.x1.a m.x1.es.length m.x1.c (es1.map trV), A.vec 60 1 m.x2.a m.x2.es.length m.x2.c (m.x2.es.map trV), A.vec 55 1 m.x3.a m.x3.es.length m.x3.c (m.x3.es.map trV), A.vec 45 1 m.x5.a m.x5.es.length m.x5.c (m.x5.es.map trV), BfK KN0 bf0, BfK KN1 bf1, BfK KN2 m.x2.bufs, BfK KN3 m.x3.bufs, A.all (m.ys.map rbA), A.all (m.ns.map nbA)]) (by rfl)
  obtain ⟨_, hlc4, hcap4⟩ := BfK.sl (K := KN4) kk4.pull1 hon4
  have kk5 := k.sel 15 [7, 13, 14, 0, 1, 2, 3, 4, 5, 6, 8, 9, 10, 11, 12] rfl (by decide) (L' := [A.vec 45 1 m.x5.a m.x5.es.length m.x5.c (m.x5.es.map trV), A.all (m.ys.map rbA), A.all (m.ns.map nbA), A.blk b1 #[.int .i64 (f0 : Int), .int .i64 (f1 : Int), .int .i64 (f2 : Int)] 123, A.blk p (lkC m) 52, A.vec 112 1 m.x0.a m.x0.es.length m.x0.c (es0.map trV), A.vec 54 1 m.x1.a m.x1.es.length m.x1.c (es1.map trV), A.vec 60 1 m.x2.a m.x2.es.length m.x2.c (m.x2.es.map trV), A.vec 55 1 m.x3.a m.x3.es.length m.x3.c (m.x3.es.map trV), A.vec 61 1 m.x4.a m.x4.es.length m.x4.c (m.x4.es.map trV), BfK KN0 bf0, BfK KN1 bf1, BfK KN2 m.x2.bufs, BfK KN3 m.x3.bufs, BfK KN4 m.x4.bufs]) (by rfl)
  obtain ⟨hlc5, hcap5⟩ := rows_cap kk5.pull1 hy5
  have hc5 : y5.c = e5.2.2 := congrArg Bf.c hb5
  have hm5 : y5.bs.length = e5.2.1 := congrArg Bf.m hb5
  have ha5 : y5.a = e5.1 := congrArg Bf.a hb5
  have ht5 : y5.t = f2 / 2 := congrArg Bf.t hb5
  have hsm5 : e5.2.1 ≤ 1099511627776 := ok.x5.sm f2 e5 h2' he5
  rw [hc5] at hlc5 hcap5
  rw [hm5] at hlc5
  refine VSome.mk ⟨_, _, _, kk2.rd (by rfl), tr_one (kk2.sl (a := m.x2.a)) (by omega) he2 fun ad2 hcd2 => ⟨_, _, _, hcd2, ?_⟩⟩
  refine VSome.mk ⟨_, _, _, kk3.rd (by rfl), tr_one (kk3.sl (a := m.x3.a)) (by omega) he3 fun ad3 hcd3 => ⟨_, _, _, hcd3, ?_⟩⟩
  refine VSome.mk ⟨_, _, _, kk4.rd (by rfl), tr_one (kk4.sl (a := m.x4.a)) (by omega) he4 fun ad4 hcd4 => ⟨_, _, _, hcd4, ?_⟩⟩
  refine VSome.mk ⟨_, _, _, kk5.rd (by rfl), tr_one (kk5.sl (a := m.x5.a)) (by omega) he5 fun ad5 hcd5 => ⟨_, _, _, hcd5, ?_⟩⟩
  have k := kk2
  clear kk2 kk3 kk4 kk5
  refine ⟨fun m3 h' a' l' c' x => ∃ (r : Nat) (bf : List (Bf Nat)), x = r ∧ r ≤ min (e2.2.2 - e2.2.1) 70000 ∧ m3 = min (e2.2.2 - e2.2.1) 70000 - r ∧ l' = e2.2.1 + r ∧ Cov m.x2.bufs bf ∧ On bf (f2 / 2) a' (e2.2.1 + r) c' ∧
      St F h h' [A.vec 60 1 m.x2.a m.x2.es.length m.x2.c (m.x2.es.map trV), BfK KN2 bf, A.blk b1 #[.int .i64 (f0 : Int), .int .i64 (f1 : Int), .int .i64 (f2 : Int)] 123, A.blk p (lkC m) 52, A.vec 112 1 m.x0.a m.x0.es.length m.x0.c (es0.map trV), A.vec 54 1 m.x1.a m.x1.es.length m.x1.c (es1.map trV), A.vec 55 1 m.x3.a m.x3.es.length m.x3.c (m.x3.es.map trV), A.vec 61 1 m.x4.a m.x4.es.length m.x4.c (m.x4.es.map trV), A.vec 45 1 m.x5.a m.x5.es.length m.x5.c (m.x5.es.map trV), BfK KN0 bf0, BfK KN1 bf1, BfK KN3 m.x3.bufs, BfK KN4 m.x4.bufs, A.all (m.ys.map rbA), A.all (m.ns.map nbA)], ⟨_, 0, m.x2.bufs, rfl, Nat.zero_le _, rfl, rfl, Cov.refl _, hon2, k⟩, ?_⟩
  clear k
  rintro m32 h119_2 _ a2' l' c2' x ⟨r2, bf2, rfl, hr2, rfl, rfl, cov2, on2, k⟩
  refine VSome.mk ⟨_, _, _, k.rd (by rfl), tr_one (k.sl (a := m.x2.a)) (by omega) he2 fun ad hc1 => ⟨_, _, _, hc1, VSome.mk ⟨_, _, _, k.rd (by rfl), tr_one (k.sl (a := m.x2.a)) (by omega) he2 fun ad2 hc2 => ⟨_, _, _, hc2, ?_⟩⟩⟩⟩
  rw [wrsub hlc2 hcap2]
  refine CallsH.mono (room_spec (e2.2.2 - e2.2.1)) ?_
  rintro _ _ ⟨rfl, rfl⟩
  refine ⟨_, rfl, cond_split (fun hc => ?_) (fun hc => ?_)⟩
  · have hrl : r2 < min (e2.2.2 - e2.2.1) 70000 := Int.ofNat_lt.1 (of_decide_eq_true hc)
    refine CallsH.mono (num_spec f2 (by omega)) ?_
    rintro _ _ ⟨rfl, rfl⟩
    refine ⟨_, rfl, k.vnew fun b38 h39 k => ?_⟩
    have hs : Sl h39 (some ⟨b38, 0, none⟩) (KN2.f (f2 / 2) (e2.2.1 + r2)) := k.slB (b := b38)
    refine BfK.app (K := KN2) T28 T28.ut (by simp) k.pull2 on2 (Src.slice hs rfl) (by omega) fun bfN a2 c2 h2 covN onN k => ⟨_, _, _, rfl, min (e2.2.2 - e2.2.1) 70000 - (r2 + 1), by omega, r2 + 1, bfN, wrap_nat hrl (by omega), hrl, rfl, rfl, cov2.trans covN, onN, ?_⟩
    exact (k.sel 16 [1, 2, 0, 3, 4, 5, 6, 7, 8, 9, 10, 11, 12, 13, 14, 15] rfl (by decide) (L' := [_, _, _, _, _, _, _, _, _, _, _, _, _, _, _, _]) (by rfl)).drop
  have hrl2 : r2 = min (e2.2.2 - e2.2.1) 70000 := by
    have : ¬ (r2 : Int) < ((min (e2.2.2 - e2.2.1) 70000 : Nat) : Int) := of_decide_eq_false hc
    omega
  clear hc
  have k := k.sel 15 [6, 11, 2, 3, 4, 5, 0, 7, 8, 9, 10, 1, 12, 13, 14] rfl (by decide) (L' := [A.vec 55 1 m.x3.a m.x3.es.length m.x3.c (m.x3.es.map trV), BfK KN3 m.x3.bufs, A.blk b1 #[.int .i64 (f0 : Int), .int .i64 (f1 : Int), .int .i64 (f2 : Int)] 123, A.blk p (lkC m) 52, A.vec 112 1 m.x0.a m.x0.es.length m.x0.c (es0.map trV), A.vec 54 1 m.x1.a m.x1.es.length m.x1.c (es1.map trV), A.vec 60 1 m.x2.a m.x2.es.length m.x2.c (m.x2.es.map trV), A.vec 61 1 m.x4.a m.x4.es.length m.x4.c (m.x4.es.map trV), A.vec 45 1 m.x5.a m.x5.es.length m.x5.c (m.x5.es.map trV), BfK KN0 bf0, BfK KN1 bf1, BfK KN2 bf2, BfK KN4 m.x4.bufs, A.all (m.ys.map rbA), A.all (m.ns.map nbA)]) (by rfl)
  refine ⟨fun m3 h' a' l' c' x => ∃ (r : Nat) (bf : List (Bf Nat)), x = r ∧ r ≤ min (e3.2.2 - e3.2.1) 70000 ∧ m3 = min (e3.2.2 - e3.2.1) 70000 - r ∧ l' = e3.2.1 + r ∧ Cov m.x3.bufs bf ∧ On bf (f2 / 2) a' (e3.2.1 + r) c' ∧
      St F h h' [A.vec 55 1 m.x3.a m.x3.es.length m.x3.c (m.x3.es.map trV), BfK KN3 bf, A.blk b1 #[.int .i64 (f0 : Int), .int .i64 (f1 : Int), .int .i64 (f2 : Int)] 123, A.blk p (lkC m) 52, A.vec 112 1 m.x0.a m.x0.es.length m.x0.c (es0.map trV), A.vec 54 1 m.x1.a m.x1.es.length m.x1.c (es1.map trV), A.vec 60 1 m.x2.a m.x2.es.length m.x2.c (m.x2.es.map trV), A.vec 61 1 m.x4.a m.x4.es.length m.x4.c (m.x4.es.map trV), A.vec 45 1 m.x5.a m.x5.es.length m.x5.c (m.x5.es.map trV), BfK KN0 bf0, BfK KN1 bf1, BfK KN2 bf2, BfK KN4 m.x4.bufs, A.all (m.ys.map rbA), A.all (m.ns.map nbA)], ⟨_, 0, m.x3.bufs, rfl, Nat.zero_le _, rfl, rfl, Cov.refl _, hon3, k⟩, ?_⟩
  clear k
  rintro m33 h119_3 _ a3' l' c3' x ⟨r3, bf3, rfl, hr3, rfl, rfl, cov3, on3, k⟩
  refine VSome.mk ⟨_, _, _, k.rd (by rfl), tr_one (k.sl (a := m.x3.a)) (by omega) he3 fun ad hc1 => ⟨_, _, _, hc1, VSome.mk ⟨_, _, _, k.rd (by rfl), tr_one (k.sl (a := m.x3.a)) (by omega) he3 fun ad2 hc2 => ⟨_, _, _, hc2, ?_⟩⟩⟩⟩
  rw [wrsub hlc3 hcap3]
  refine CallsH.mono (room_spec (e3.2.2 - e3.2.1)) ?_
  rintro _ _ ⟨rfl, rfl⟩
  refine ⟨_, rfl, cond_split (fun hc => ?_) (fun hc => ?_)⟩
  · have hrl : r3 < min (e3.2.2 - e3.2.1) 70000 := Int.ofNat_lt.1 (of_decide_eq_true hc)
    refine CallsH.mono (name_spec61 f2 (by omega)) ?_
    rintro _ h36 ⟨rfl, mx⟩
    have k := k.next mx
    refine ⟨_, rfl, k.vnew fun b38 h39 k => ?_⟩
    have hs : Sl h39 (some ⟨b38, 0, none⟩) (KN3.f (f2 / 2) (e3.2.1 + r3)) := k.slB (b := b38)
    refine BfK.app (K := KN3) T24 T24.ut (by simp) k.pull2 on3 (Src.slice hs rfl) (by omega) fun bfN a2 c2 h2 covN onN k => ⟨_, _, _, rfl, min (e3.2.2 - e3.2.1) 70000 - (r3 + 1), by omega, r3 + 1, bfN, wrap_nat hrl (by omega), hrl, rfl, rfl, cov3.trans covN, onN, ?_⟩
    exact (k.sel 16 [1, 2, 0, 3, 4, 5, 6, 7, 8, 9, 10, 11, 12, 13, 14, 15] rfl (by decide) (L' := [_, _, _, _, _, _, _, _, _, _, _, _, _, _, _, _]) (by rfl)).drop
  have hrl3 : r3 = min (e3.2.2 - e3.2.1) 70000 := by
    have : ¬ (r3 : Int) < ((min (e3.2.2 - e3.2.1) 70000 : Nat) : Int) := of_decide_eq_false hc
    omega
  clear hc
  have k := k.sel 15 [7, 12, 2, 3, 4, 5, 6, 0, 8, 9, 10, 11, 1, 13, 14] rfl (by decide) (L' := [A.vec 61 1 m.x4.a m.x4.es.length m.x4.c (m.x4.es.map trV), BfK KN4 m.x4.bufs, A.blk b1 #[.int .i64 (f0 : Int), .int .i64 (f1 : Int), .int .i64 (f2 : Int)] 123, A.blk p (lkC m) 52, A.vec 112 1 m.x0.a m.x0.es.length m.x0.c (es0.map trV), A.vec 54 1 m.x1.a m.x1.es.length m.x1.c (es1.map trV), A.vec 60 1 m.x2.a m.x2.es.length m.x2.c (m.x2.es.map trV), A.vec 55 1 m.x3.a m.x3.es.length m.x3.c (m.x3.es.map trV), A.vec 45 1 m.x5.a m.x5.es.length m.x5.c (m.x5.es.map trV), BfK KN0 bf0, BfK KN1 bf1, BfK KN2 bf2, BfK KN3 bf3, A.all (m.ys.map rbA), A.all (m.ns.map nbA)]) (by rfl)
  refine ⟨fun m3 h' a' l' c' x => ∃ (r : Nat) (bf : List (Bf Nat)), x = r ∧ r ≤ min (e4.2.2 - e4.2.1) 70000 ∧ m3 = min (e4.2.2 - e4.2.1) 70000 - r ∧ l' = e4.2.1 + r ∧ Cov m.x4.bufs bf ∧ On bf (f2 / 2) a' (e4.2.1 + r) c' ∧
      St F h h' [A.vec 61 1 m.x4.a m.x4.es.length m.x4.c (m.x4.es.map trV), BfK KN4 bf, A.blk b1 #[.int .i64 (f0 : Int), .int .i64 (f1 : Int), .int .i64 (f2 : Int)] 123, A.blk p (lkC m) 52, A.vec 112 1 m.x0.a m.x0.es.length m.x0.c (es0.map trV), A.vec 54 1 m.x1.a m.x1.es.length m.x1.c (es1.map trV), A.vec 60 1 m.x2.a m.x2.es.length m.x2.c (m.x2.es.map trV), A.vec 55 1 m.x3.a m.x3.es.length m.x3.c (m.x3.es.map trV), A.vec 45 1 m.x5.a m.x5.es.length m.x5.c (m.x5.es.map trV), BfK KN0 bf0, BfK KN1 bf1, BfK KN2 bf2, BfK KN3 bf3, A.all (m.ys.map rbA), A.all (m.ns.map nbA)], ⟨_, 0, m.x4.bufs, rfl, Nat.zero_le _, rfl, rfl, Cov.refl _, hon4, k⟩, ?_⟩
  clear k
  rintro m34 h119_4 _ a4' l' c4' x ⟨r4, bf4, rfl, hr4, rfl, rfl, cov4, on4, k⟩
  refine VSome.mk ⟨_, _, _, k.rd (by rfl), tr_one (k.sl (a := m.x4.a)) (by omega) he4 fun ad hc1 => ⟨_, _, _, hc1, VSome.mk ⟨_, _, _, k.rd (by rfl), tr_one (k.sl (a := m.x4.a)) (by omega) he4 fun ad2 hc2 => ⟨_, _, _, hc2, ?_⟩⟩⟩⟩
  rw [wrsub hlc4 hcap4]
  refine CallsH.mono (room_spec (e4.2.2 - e4.2.1)) ?_
  rintro _ _ ⟨rfl, rfl⟩
  refine ⟨_, rfl, cond_split (fun hc => ?_) (fun hc => ?_)⟩
  · have hrl : r4 < min (e4.2.2 - e4.2.1) 70000 := Int.ofNat_lt.1 (of_decide_eq_true hc)
    refine CallsH.mono (name_spec61 f2 (by omega)) ?_
    rintro _ h36 ⟨rfl, mx⟩
    have k := k.next mx
    refine ⟨_, rfl, k.vnew fun b38 h39 k => ?_⟩
    have hs : Sl h39 (some ⟨b38, 0, none⟩) (KN4.f (f2 / 2) (e4.2.1 + r4)) := k.slB (b := b38)
    refine BfK.app (K := KN4) T29 T29.ut (by simp) k.pull2 on4 (Src.slice hs rfl) (by omega) fun bfN a2 c2 h2 covN onN k => ⟨_, _, _, rfl, min (e4.2.2 - e4.2.1) 70000 - (r4 + 1), by omega, r4 + 1, bfN, wrap_nat hrl (by omega), hrl, rfl, rfl, cov4.trans covN, onN, ?_⟩
    exact (k.sel 16 [1, 2, 0, 3, 4, 5, 6, 7, 8, 9, 10, 11, 12, 13, 14, 15] rfl (by decide) (L' := [_, _, _, _, _, _, _, _, _, _, _, _, _, _, _, _]) (by rfl)).drop
  have hrl4 : r4 = min (e4.2.2 - e4.2.1) 70000 := by
    have : ¬ (r4 : Int) < ((min (e4.2.2 - e4.2.1) 70000 : Nat) : Int) := of_decide_eq_false hc
    omega
  clear hc
  have k := k.sel 15 [8, 13, 14, 2, 3, 4, 5, 6, 7, 0, 9, 10, 11, 12, 1] rfl (by decide) (L' := [A.vec 45 1 m.x5.a m.x5.es.length m.x5.c (m.x5.es.map trV), A.all (m.ys.map rbA), A.all (m.ns.map nbA), A.blk b1 #[.int .i64 (f0 : Int), .int .i64 (f1 : Int), .int .i64 (f2 : Int)] 123, A.blk p (lkC m) 52, A.vec 112 1 m.x0.a m.x0.es.length m.x0.c (es0.map trV), A.vec 54 1 m.x1.a m.x1.es.length m.x1.c (es1.map trV), A.vec 60 1 m.x2.a m.x2.es.length m.x2.c (m.x2.es.map trV), A.vec 55 1 m.x3.a m.x3.es.length m.x3.c (m.x3.es.map trV), A.vec 61 1 m.x4.a m.x4.es.length m.x4.c (m.x4.es.map trV), BfK KN0 bf0, BfK KN1 bf1, BfK KN2 bf2, BfK KN3 bf3, BfK KN4 bf4]) (by rfl)
  refine ⟨fun m3 h' a' l' c' x => ∃ (r : Nat) (ys : List Rb) (ns : List (Nat × Nat)) (y : Rb), x = r ∧ r ≤ min (e5.2.2 - e5.2.1) 70000 ∧ m3 = min (e5.2.2 - e5.2.1) 70000 - r ∧ a' = y.a ∧ l' = y.bs.length ∧ c' = y.c ∧ y.bs.length = e5.2.1 + r ∧ y.t = f2 / 2 ∧ Cov m.x5.bufs (ys.map Rb.bf) ∧ y ∈ ys ∧ (∀ y ∈ ys, ∀ b ∈ y.bs, (y.t, b) ∈ ns) ∧
      St F h h' [A.vec 45 1 m.x5.a m.x5.es.length m.x5.c (m.x5.es.map trV), A.all (ys.map rbA), A.all (ns.map nbA), A.blk b1 #[.int .i64 (f0 : Int), .int .i64 (f1 : Int), .int .i64 (f2 : Int)] 123, A.blk p (lkC m) 52, A.vec 112 1 m.x0.a m.x0.es.length m.x0.c (es0.map trV), A.vec 54 1 m.x1.a m.x1.es.length m.x1.c (es1.map trV), A.vec 60 1 m.x2.a m.x2.es.length m.x2.c (m.x2.es.map trV), A.vec 55 1 m.x3.a m.x3.es.length m.x3.c (m.x3.es.map trV), A.vec 61 1 m.x4.a m.x4.es.length m.x4.c (m.x4.es.map trV), BfK KN0 bf0, BfK KN1 bf1, BfK KN2 bf2, BfK KN3 bf3, BfK KN4 bf4], ⟨_, 0, m.ys, m.ns, y5, rfl, Nat.zero_le _, rfl, ha5.symm, hm5.symm, hc5.symm, hm5, ht5, by rw [ok.bf]; exact Cov.refl _, hy5, ok.rb, k⟩, ?_⟩
  clear k
  rintro m35 h197 _ a5' l5' c5' x ⟨r5, ys, ns, y, rfl, hr5, rfl, rfl, rfl, rfl, hyl, hyt, cov5, hy, rb, k⟩
  refine VSome.mk ⟨_, _, _, k.rd (by rfl), tr_one (k.sl (a := m.x5.a)) (by omega) he5 fun ad hc1 => ⟨_, _, _, hc1, VSome.mk ⟨_, _, _, k.rd (by rfl), tr_one (k.sl (a := m.x5.a)) (by omega) he5 fun ad2 hc2 => ⟨_, _, _, hc2, ?_⟩⟩⟩⟩
  rw [wrsub hlc5 hcap5]
  refine CallsH.mono (room_spec (e5.2.2 - e5.2.1)) ?_
  rintro _ _ ⟨rfl, rfl⟩
  refine ⟨_, rfl, cond_split (fun hc => ?_) (fun hc => ?_)⟩
  · have hrl : r5 < min (e5.2.2 - e5.2.1) 70000 := Int.ofNat_lt.1 (of_decide_eq_true hc)
    refine CallsH.mono (num_spec f2 (by omega)) ?_
    rintro _ _ ⟨rfl, rfl⟩
    rw [← hyt]
    refine ⟨_, rfl, k.vnew fun b216 h217 k => k.vnew fun b218 h219 k => ?_⟩
    refine rows_app (y := y) (bb := b218) (bn := b216) (k.sel 17 [0, 1, 3, 4, 2, 5, 6, 7, 8, 9, 10, 11, 12, 13, 14, 15, 16] rfl (by decide) (L' := [_, _, _, _, _, _, _, _, _, _, _, _, _, _, _, _, _]) (by rfl)) hy rb (by omega) fun ys' ns' y' h' cov2 hy2 ht2 hl2 rb2 k => ?_
    refine ⟨_, _, _, rfl, min (e5.2.2 - e5.2.1) 70000 - (r5 + 1), by omega, r5 + 1, ys', ns', y', wrap_nat hrl (by omega), hrl, rfl, rfl, hl2.symm, rfl, by omega, ht2, cov5.trans cov2, hy2, rb2, ?_⟩
    exact k.sel 15 [2, 0, 1, 3, 4, 5, 6, 7, 8, 9, 10, 11, 12, 13, 14] rfl (by decide) (L' := [_, _, _, _, _, _, _, _, _, _, _, _, _, _, _]) (by rfl)
  clear hc
  have ew : IntKind.i64.wrap ((f2 : Int) + 1) = ((f2 + 1 : Nat) : Int) := wrap_nat (m := f2 + 1) (by omega) (by omega)
  have ew2 : IntKind.i64.wrap ((f2 : Int) + 2) = ((f2 + 2 : Nat) : Int) := by rw [wrap_id (by omega) (by omega)]; omega
  rw [ew, ew2]
  rw [hyl]
  have k := k.sel 15 [7, 3, 4, 5, 6, 8, 9, 0, 10, 11, 12, 13, 14, 1, 2] rfl (by decide) (L' := [A.vec 60 1 m.x2.a m.x2.es.length m.x2.c (m.x2.es.map trV), A.blk b1 #[.int .i64 (f0 : Int), .int .i64 (f1 : Int), .int .i64 (f2 : Int)] 123, A.blk p (lkC m) 52, A.vec 112 1 m.x0.a m.x0.es.length m.x0.c (es0.map trV), A.vec 54 1 m.x1.a m.x1.es.length m.x1.c (es1.map trV), A.vec 55 1 m.x3.a m.x3.es.length m.x3.c (m.x3.es.map trV), A.vec 61 1 m.x4.a m.x4.es.length m.x4.c (m.x4.es.map trV), A.vec 45 1 m.x5.a m.x5.es.length m.x5.c (m.x5.es.map trV), BfK KN0 bf0, BfK KN1 bf1, BfK KN2 bf2, BfK KN3 bf3, BfK KN4 bf4, A.all (ys.map rbA), A.all (ns.map nbA)]) (by rfl)
  refine VSome.mk ⟨_, _, _, k.rd (by rfl), ?_⟩
  refine tr_set (e := (a2', e2.2.1 + r2, c2')) k (by omega) (by omega) fun h46 k => ?_
  have k := k.sel 15 [5, 1, 2, 3, 4, 0, 6, 7, 8, 9, 10, 11, 12, 13, 14] rfl (by decide) (L' := [A.vec 55 1 m.x3.a m.x3.es.length m.x3.c (m.x3.es.map trV), A.blk b1 #[.int .i64 (f0 : Int), .int .i64 (f1 : Int), .int .i64 (f2 : Int)] 123, A.blk p (lkC m) 52, A.vec 112 1 m.x0.a m.x0.es.length m.x0.c (es0.map trV), A.vec 54 1 m.x1.a m.x1.es.length m.x1.c (es1.map trV), A.vec 60 1 m.x2.a m.x2.es.length m.x2.c ((m.x2.es.set (f2 + 1) (a2', e2.2.1 + r2, c2')).map trV), A.vec 61 1 m.x4.a m.x4.es.length m.x4.c (m.x4.es.map trV), A.vec 45 1 m.x5.a m.x5.es.length m.x5.c (m.x5.es.map trV), BfK KN0 bf0, BfK KN1 bf1, BfK KN2 bf2, BfK KN3 bf3, BfK KN4 bf4, A.all (ys.map rbA), A.all (ns.map nbA)]) (by rfl)
  refine VSome.mk ⟨_, _, _, k.rd (by rfl), ?_⟩
  refine tr_set (e := (a3', e3.2.1 + r3, c3')) k (by omega) (by omega) fun h46 k => ?_
  have k := k.sel 15 [6, 1, 2, 3, 4, 5, 0, 7, 8, 9, 10, 11, 12, 13, 14] rfl (by decide) (L' := [A.vec 61 1 m.x4.a m.x4.es.length m.x4.c (m.x4.es.map trV), A.blk b1 #[.int .i64 (f0 : Int), .int .i64 (f1 : Int), .int .i64 (f2 : Int)] 123, A.blk p (lkC m) 52, A.vec 112 1 m.x0.a m.x0.es.length m.x0.c (es0.map trV), A.vec 54 1 m.x1.a m.x1.es.length m.x1.c (es1.map trV), A.vec 60 1 m.x2.a m.x2.es.length m.x2.c ((m.x2.es.set (f2 + 1) (a2', e2.2.1 + r2, c2')).map trV), A.vec 55 1 m.x3.a m.x3.es.length m.x3.c ((m.x3.es.set (f2 + 1) (a3', e3.2.1 + r3, c3')).map trV), A.vec 45 1 m.x5.a m.x5.es.length m.x5.c (m.x5.es.map trV), BfK KN0 bf0, BfK KN1 bf1, BfK KN2 bf2, BfK KN3 bf3, BfK KN4 bf4, A.all (ys.map rbA), A.all (ns.map nbA)]) (by rfl)
  refine VSome.mk ⟨_, _, _, k.rd (by rfl), ?_⟩
  refine tr_set (e := (a4', e4.2.1 + r4, c4')) k (by omega) (by omega) fun h46 k => ?_
  have k := k.sel 15 [7, 1, 2, 3, 4, 5, 6, 0, 8, 9, 10, 11, 12, 13, 14] rfl (by decide) (L' := [A.vec 45 1 m.x5.a m.x5.es.length m.x5.c (m.x5.es.map trV), A.blk b1 #[.int .i64 (f0 : Int), .int .i64 (f1 : Int), .int .i64 (f2 : Int)] 123, A.blk p (lkC m) 52, A.vec 112 1 m.x0.a m.x0.es.length m.x0.c (es0.map trV), A.vec 54 1 m.x1.a m.x1.es.length m.x1.c (es1.map trV), A.vec 60 1 m.x2.a m.x2.es.length m.x2.c ((m.x2.es.set (f2 + 1) (a2', e2.2.1 + r2, c2')).map trV), A.vec 55 1 m.x3.a m.x3.es.length m.x3.c ((m.x3.es.set (f2 + 1) (a3', e3.2.1 + r3, c3')).map trV), A.vec 61 1 m.x4.a m.x4.es.length m.x4.c ((m.x4.es.set (f2 + 1) (a4', e4.2.1 + r4, c4')).map trV), BfK KN0 bf0, BfK KN1 bf1, BfK KN2 bf2, BfK KN3 bf3, BfK KN4 bf4, A.all (ys.map rbA), A.all (ns.map nbA)]) (by rfl)
  refine VSome.mk ⟨_, _, _, k.rd (by rfl), ?_⟩
  refine tr_set (e := (y.a, e5.2.1 + r5, y.c)) k (by omega) (by omega) fun h46 k => ?_
  refine ⟨0, by omega, .inr ⟨rfl, rfl, ⟨⟨m.x0.a, m.x0.c, es0, bf0⟩, ⟨m.x1.a, m.x1.c, es1, bf1⟩, ⟨m.x2.a, m.x2.c, (m.x2.es.set (f2 + 1) (a2', e2.2.1 + r2, c2')), bf2⟩, ⟨m.x3.a, m.x3.c, (m.x3.es.set (f2 + 1) (a3', e3.2.1 + r3, c3')), bf3⟩, ⟨m.x4.a, m.x4.c, (m.x4.es.set (f2 + 1) (a4', e4.2.1 + r4, c4')), bf4⟩, ⟨m.x5.a, m.x5.c, (m.x5.es.set (f2 + 1) (y.a, e5.2.1 + r5, y.c)), ys.map Rb.bf⟩, ys, ns, m.n⟩, ⟨okc0, okc1, CgOk.set (e := (a2', e2.2.1 + r2, c2')) ok.x2 (by omega) h2' (by omega) (by omega) cov2 on2, CgOk.set (e := (a3', e3.2.1 + r3, c3')) ok.x3 (by omega) h2' (by omega) (by omega) cov3 on3, CgOk.set (e := (a4', e4.2.1 + r4, c4')) ok.x4 (by omega) h2' (by omega) (by omega) cov4 on4, CgOk.set (e := (y.a, e5.2.1 + r5, y.c)) ok.x5 (by omega) h2' (by omega) (by omega) cov5 ⟨y.bf, List.mem_map_of_mem hy, hyt, rfl, rfl, by show e5.2.1 + r5 ≤ y.bs.length; omega⟩, rfl, rb, ?_, ?_, ?_⟩, ⟨?_, ?_, ?_⟩, ?_, ?_⟩⟩
  · show List.length _ = List.length _; rw [List.length_set, List.length_set]; exact l3
  · show List.length _ = List.length _; rw [List.length_set, List.length_set]; exact l4
  · show List.length _ = List.length _; rw [List.length_set, List.length_set]; exact l5
  · show es0.length ≤ q; omega
  · show es1.length ≤ q; omega
  · show List.length _ ≤ q; rw [List.length_set]; exact lq2
  · show List.length _ = _; rw [List.length_set]; exact g2
  · have k := k.sel 15 [1, 2, 3, 4, 5, 6, 7, 0, 8, 9, 10, 11, 12, 13, 14] rfl (by decide) (L' := [A.blk b1 #[.int .i64 (f0 : Int), .int .i64 (f1 : Int), .int .i64 (f2 : Int)] 123, A.blk p (lkC m) 52, A.vec 112 1 m.x0.a m.x0.es.length m.x0.c (es0.map trV), A.vec 54 1 m.x1.a m.x1.es.length m.x1.c (es1.map trV), A.vec 60 1 m.x2.a m.x2.es.length m.x2.c ((m.x2.es.set (f2 + 1) (a2', e2.2.1 + r2, c2')).map trV), A.vec 55 1 m.x3.a m.x3.es.length m.x3.c ((m.x3.es.set (f2 + 1) (a3', e3.2.1 + r3, c3')).map trV), A.vec 61 1 m.x4.a m.x4.es.length m.x4.c ((m.x4.es.set (f2 + 1) (a4', e4.2.1 + r4, c4')).map trV), A.vec 45 1 m.x5.a m.x5.es.length m.x5.c ((m.x5.es.set (f2 + 1) (y.a, e5.2.1 + r5, y.c)).map trV), BfK KN0 bf0, BfK KN1 bf1, BfK KN2 bf2, BfK KN3 bf3, BfK KN4 bf4, A.all (ys.map rbA), A.all (ns.map nbA)]) (by rfl)
    simp only [ListsL, hdA, lkC, hdV, hes0, hes1, List.length_set]
    exact k
end Go.Proofs.YtgdgebmlcgohhaaGreatDoor.F
