/- A stream's answer is taken into the book. Conditions: none. -/
import Derived.Test.YtgdgebmlcgohhaaGreatDoorFA
namespace Go.Proofs.YtgdgebmlcgohhaaGreatDoor.F
open Go Go.VC Go.Proofs
set_option linter.unusedSimpArgs false
set_option linter.unusedVariables false
set_option maxRecDepth 100000
attribute [local irreducible] CallsH RunsTo PureTo

variable {S F G : Nat → Prop} {h0 h h1 : Heap} {L R L' : List A} {a b0 la wa : Option Addr} {l c l2 c2 p b cl cw q g : Nat} {bs cs : List UInt8} {n : Int}
theorem drop_cons {α : Type} {xs : List α} {j : Nat} {x : α} (h : xs[j]? = some x) : xs.drop j = x :: xs.drop (j + 1) := by
  have hlt := (List.getElem?_eq_some_iff.1 h).1
  rw [List.drop_eq_getElem_cons hlt]
  congr 1
  rw [List.getElem?_eq_getElem hlt] at h
  exact Option.some.inj h
set_option maxHeartbeats 4000000 in
theorem btake_spec {m : Cm} {xs : List Bytes} (ok : CgOk 3 m) (k0 : Holds (BookL p m n ++ [bytE.L a l c xs]) F h) (hlen : ∀ b ∈ xs, b.length ≤ 1099511627776) (hq : m.es.length ≤ q) (hb : q + 3 * l ≤ 4398046511104) :
    CallsH Tryz.prog 14 #[.pointer (some ⟨p, 0, none⟩), .slice a l c] h (fun v h' => v = .tuple #[] ∧ ∃ m' n', CgOk 3 m' ∧ m'.es.length ≤ q + 3 * l ∧ St F h h' (BookL p m' n')) := by
  refine vf14 _ _ _ _ h _ ?_
  unfold F14
  have k : St F h h [A.blk p #[hdV m, .int .i64 n] 35, hdA 36 m, BfK KdB m.bufs, bytE.L a l c xs] := St.start k0
  refine VSome.mk ⟨_, k.rd (by rfl), cond_split (fun hc => ?_) (fun hc => ?_)⟩
  · exact ⟨rfl, m, n, ok, by omega, k.only3⟩
  refine VSome.mk ⟨_, _, _, k.rd (by rfl), ?_⟩
  obtain ⟨ss, hss, k⟩ := El.open (E := bytE) k.pull3
  have hsl : ss.length = l := by
    have := (St.vec (a := a) k).1.len
    rw [flatMap_len bytE.len] at this
    exact Nat.eq_of_mul_eq_mul_right bytE.pos this
  -- [cells, all, blk, hd, bf]
  have k := k.sel 5 [2, 3, 4, 0, 1] rfl (by decide) (L' := [A.blk p #[hdV m, .int .i64 n] 35, hdA 36 m, BfK KdB m.bufs, A.vec 36 1 a l c (ss.flatMap bytE.cells), A.all (ss.map bytE.own)]) (by rfl)
  refine ⟨fun mm h' i => ∃ (j : Nat) (m' : Cm) (n' : Int), i = j ∧ j ≤ l ∧ mm = l - j ∧ CgOk 3 m' ∧ m'.es.length = m.es.length + 3 * j ∧
    St F h h' [A.blk p #[hdV m', .int .i64 n'] 35, hdA 36 m', BfK KdB m'.bufs, A.vec 36 1 a l c (ss.flatMap bytE.cells), A.all ((ss.drop j).map bytE.own)], ⟨_, 0, m, n, rfl, Nat.zero_le _, rfl, ok, rfl, k⟩, ?_⟩
  clear k
  rintro mm h7 _ i ⟨j, m', n', rfl, hj, rfl, ok', hml, k⟩
  refine cond_split (fun hc => ?_) (fun hc => ?_)
  · have hjl : j < l := Int.ofNat_lt.1 (of_decide_eq_true hc)
    obtain ⟨s, hs⟩ : ∃ s, ss[j]? = some s := ⟨_, List.getElem?_eq_getElem (by omega)⟩
    have hsb : s.bs.length ≤ 1099511627776 := hlen _ (by rw [← hss]; exact List.mem_map.2 ⟨s, List.mem_of_getElem? hs, rfl⟩)
    have cell : ∀ {h' : Heap} {K : Addr → Prop}, Sl h' a (ss.flatMap bytE.cells) → (∀ ad, cellH h' ad = some (.slice s.a s.bs.length s.c) → K ad) → VIdx a l (j : Int) 1 K := fun hsl2 q =>
      hsl2.row (f := bytE.cells) (sz := 1) bytE.len (by omega) hsl (by omega) (by omega) fun ad z hz hcz => by
        rw [Int.toNat_natCast, hs] at hz
        cases hz
        exact q ad (hcz 0 _ rfl)
    rw [drop_cons hs] at k
    have k := k.sel 5 [4, 0, 1, 2, 3] rfl (by decide) (L' := [A.all ((s :: ss.drop (j + 1)).map bytE.own), _, _, _, _]) (by rfl)
    have k := k.allOut
    have k : St F h h7 [BV s.a s.bs.length s.c s.bs, A.all ((ss.drop (j + 1)).map bytE.own), A.blk p #[hdV m', .int .i64 n'] 35, hdA 36 m', BfK KdB m'.bufs, A.vec 36 1 a l c (ss.flatMap bytE.cells)] := k
    refine VSome.mk ⟨_, k.rd (by rfl), cell (k.sl (a := a)) fun ad hcd => ⟨_, _, _, hcd, VSome.mk (k.vst (Nat.le_of_ble_eq_true (by rfl)) fun h16 k => ?_)⟩⟩
    generalize (IntKind.i64.wrap (IntKind.i64.wrap (n' + 1600) + IntKind.i64.wrap (4 * (s.bs.length : Int)))) = n2 at k
    have hvl : (bytesV s.bs).length = s.bs.length * KdB.sz := by rw [bytesV_len]; exact (Nat.mul_one _).symm
    have k : St F h h16 [A.vec 5 1 s.a s.bs.length s.c (half KdB (m'.es.length / 3) (bytesV s.bs) 0), A.all ((ss.drop (j + 1)).map bytE.own), A.blk p #[hdV m', .int .i64 n2] 35, hdA 36 m', BfK KdB m'.bufs, A.vec 36 1 a l c (ss.flatMap bytE.cells)] := by rw [half_0]; exact k
    refine ⟨fun m2 h' x => ∃ r : Nat, x = r ∧ r ≤ s.bs.length ∧ m2 = s.bs.length - r ∧ St F h h' [A.vec 5 1 s.a s.bs.length s.c (half KdB (m'.es.length / 3) (bytesV s.bs) r), A.all ((ss.drop (j + 1)).map bytE.own), A.blk p #[hdV m', .int .i64 n2] 35, hdA 36 m', BfK KdB m'.bufs, A.vec 36 1 a l c (ss.flatMap bytE.cells)], ⟨_, 0, rfl, Nat.zero_le _, rfl, k⟩, ?_⟩
    clear k
    rintro m2 h19 _ x ⟨r, rfl, hr, rfl, k⟩
    refine cell (k.sl (a := a)) fun ad1 hc1 => ⟨_, _, _, hc1, cond_split (fun hc => ?_) (fun hc => ?_)⟩
    · have hrl : r < s.bs.length := Int.ofNat_lt.1 (of_decide_eq_true hc)
      refine cell (k.sl (a := a)) fun ad2 hc2 => ⟨_, _, _, hc2, VSome.mk ⟨_, _, _, k.rd (by rfl), ?_⟩⟩
      refine CallsH.mono (mark_spec m'.es.length r (by omega)) ?_
      rintro _ _ ⟨rfl, rfl⟩
      refine ⟨_, rfl, hc2, k.vix hrl fun g o ha => ?_⟩
      rw [ha] at k
      exact half_byte k hrl fun h' k => ⟨_, by omega, r + 1, wrap_nat hrl (by omega), hrl, rfl, by rw [ha]; exact k⟩
    · have hrl : r = s.bs.length := by
        have : ¬ (r : Int) < s.bs.length := of_decide_eq_false hc
        omega
      subst hrl
      rw [half_all hvl] at k
      refine VSome.mk ⟨_, _, _, k.rd (by rfl), cell (k.sl (a := a)) fun ad3 hc3 => ⟨_, _, _, hc3, k.vnew fun b38 h39 k => ⟨k.rd (by rfl), ?_⟩⟩⟩
      have hs38 : Sl h39 (some ⟨b38, 0, none⟩) [.slice s.a s.bs.length s.c, .slice none 0 0, .slice none 0 0] := k.slB (b := b38)
      -- [b38, pat, all, blk, hd, bf, cells]
      have k := k.sel 7 [4, 0, 1, 2, 3, 5, 6] rfl (by decide) (L' := [hdA 36 m', _, _, _, _, _, _]) (by rfl)
      refine k.app T48 T48.ut (by simp) (n := 3) (Src.slice hs38 rfl) (by simp [oneC]) (by omega) fun a42 c42 h41 k => ⟨_, _, _, rfl, VSome.mk (k.vst (Nat.le_of_ble_eq_true (by rfl)) fun h44 k => ?_)⟩
      -- [hd', b38, pat, all, blk, bf, cells]
      have k := k.sel 7 [2, 5, 4, 0, 6, 3, 1] rfl (by decide) (L' := [bfK KdB ⟨m'.es.length / 3, s.a, s.bs.length, s.c⟩, BfK KdB m'.bufs, A.blk p #[.slice a42 (m'.es.length + 3) c42, .int .i64 n2] 35, _, _, _, _]) (by rfl)
      have k := k.allIn (L := m'.bufs.map (bfK KdB))
      have e1 : (m'.es ++ (s.a, s.bs.length, s.c) :: List.replicate 2 nilT).length = m'.es.length + 3 := by simp
      have e2 : (m'.es ++ (s.a, s.bs.length, s.c) :: List.replicate 2 nilT).map trV = m'.es.map trV ++ [.slice s.a s.bs.length s.c, .slice none 0 0, .slice none 0 0] := by rw [List.map_append]; rfl
      refine ⟨l - (j + 1), by omega, j + 1, ⟨a42, c42, m'.es ++ (s.a, s.bs.length, s.c) :: List.replicate 2 nilT, ⟨m'.es.length / 3, s.a, s.bs.length, s.c⟩ :: m'.bufs⟩, n2, wrap_nat hjl (by omega), hjl, rfl, CgOk.add ok' hsb, by rw [e1]; omega, ?_⟩
      simp only [hdA, hdV, e1, e2]
      exact (k.sel 6 [5, 1, 2, 0, 3, 4] rfl (by decide) (L' := [_, _, _, _, _, _]) (by rfl)).drop
  have hjl : j = l := by
    have : ¬ (j : Int) < l := of_decide_eq_false hc
    omega
  subst hjl
  clear hc hj
  have k := k.only3
  have hA0 : m.es.length % 3 = 0 := ok.ev
  refine ⟨fun mm h' i => ∃ (j2 : Nat) (m2 : Cm), i = ((m.es.length + 3 * j2 : Nat) : Int) ∧ j2 ≤ j ∧ mm = j - j2 ∧ CgOk 3 m2 ∧ m2.es.length = m.es.length + 3 * j ∧ St F h h' [A.blk p #[hdV m2, .int .i64 n'] 35, hdA 36 m2, BfK KdB m2.bufs], ⟨_, 0, m', rfl, Nat.zero_le _, rfl, ok', hml, k⟩, ?_⟩
  clear k ok' hml
  rintro mm h47 _ i ⟨j2, m2, rfl, hj2, rfl, ok2, hml, k⟩
  refine VSome.mk ⟨_, _, _, k.rd (by rfl), cond_split (fun hc => ?_) (fun hc => ?_)⟩
  · have hlt : m.es.length + 3 * j2 < m2.es.length := Int.ofNat_lt.1 (of_decide_eq_true hc)
    have hjl : j2 < j := by omega
    generalize hI : m.es.length + 3 * j2 = I at *
    have hI3 : I % 3 = 0 := by omega
    have hI2 : I + 2 < m2.es.length := by omega
    obtain ⟨e, he⟩ : ∃ e, m2.es[I]? = some e := ⟨_, List.getElem?_eq_getElem hlt⟩
    have hes := ok2.sm I e hI3 he
    have hon : On m2.bufs (I / 3) e.1 e.2.1 e.2.2 := by
      rcases ok2.es I e he with ⟨h1, _⟩ | h1
      · exact absurd hI3 h1
      · exact h1
    have hlc := (BfK.sl (K := KdB) k.pull2 hon).2.1
    have hcap := (BfK.sl (K := KdB) k.pull2 hon).2.2
    refine VSome.mk ⟨_, _, _, k.rd (by rfl), VSome.mk ⟨_, _, _, k.rd (by rfl), tr_one (k.sl (a := m2.a)) rfl he fun ad hcd => ⟨_, _, _, hcd, ?_⟩⟩⟩
    obtain ⟨F', G, kF, kG, d, hF, back⟩ := k.pull2.frameA
    refine CallsH.mono (longer_spec (i := I) (n := 1) (by omega) kF hon (by omega)) ?_
    rintro _ h60 ⟨bufs1, a61, c61, rfl, cov1, on1, k2⟩
    have k := (back k2).sel 3 [2, 1, 0] rfl (by decide) (L' := [hdA 36 m2, A.blk p #[hdV m2, .int .i64 n'] 35, BfK KdB bufs1]) (by rfl)
    clear back kF kG d hF
    refine ⟨_, _, _, rfl, k.rd (by rfl), ?_⟩
    have ew1 : IntKind.i64.wrap ((I : Int) + 1) = ((I + 1 : Nat) : Int) := wrap_nat (m := I + 1) (by omega) (by omega)
    rw [ew1]
    refine tr_set (e := (a61, e.2.1 + 1, c61)) k rfl (by omega) fun h63 k => ?_
    have ok3 : CgOk 3 ⟨m2.a, m2.c, m2.es.set (I + 1) (a61, e.2.1 + 1, c61), bufs1⟩ := CgOk.set ok2 (by omega) hI3 (by omega) (by omega) cov1 on1
    have he3 : (m2.es.set (I + 1) (a61, e.2.1 + 1, c61))[I]? = some e := by rw [List.getElem?_set_ne (by omega)]; exact he
    have hl3 : (m2.es.set (I + 1) (a61, e.2.1 + 1, c61)).length = m2.es.length := List.length_set
    have rd3 : ∀ {K : Addr → Prop}, (∀ ad, cellH h63 ad = some (trV e) → K ad) → VIdx m2.a m2.es.length (I : Int) 1 K := fun q => tr_one (k.sl (a := m2.a)) hl3 he3 q
    refine VSome.mk ⟨_, _, _, k.rd (by rfl), VSome.mk ⟨_, _, _, k.rd (by rfl), rd3 fun ad1 hc1 => ⟨_, _, _, hc1, VSome.mk ⟨_, _, _, k.rd (by rfl), rd3 fun ad2 hc2 => ⟨_, _, _, hc2, VSome.mk ⟨_, _, _, k.rd (by rfl), rd3 fun ad3 hc3 => ⟨_, _, _, hc3, ?_⟩⟩⟩⟩⟩⟩⟩
    have ew2 : IntKind.i64.wrap ((e.2.2 : Int) - (e.2.1 : Int)) = ((e.2.2 - e.2.1 : Nat) : Int) := by rw [wrap_id (by omega) (by omega)]; omega
    rw [ew2]
    refine CallsH.mono (room_spec (e.2.2 - e.2.1)) ?_
    rintro _ _ ⟨rfl, rfl⟩
    refine ⟨_, rfl, hc1, k.rd (by rfl), k.rd (by rfl), ?_⟩
    obtain ⟨F', G, kF, kG, d, hF, back⟩ := k.pull2.frameA
    refine CallsH.mono (longer_spec (i := I) (n := min (e.2.2 - e.2.1) 70000) (by omega) kF (hon.cov cov1) (by omega)) ?_
    rintro _ h82 ⟨bufs2, a83, c83, rfl, cov2, on2, k2⟩
    have k := (back k2).sel 3 [1, 2, 0] rfl (by decide) (L' := [A.vec 36 1 m2.a m2.es.length m2.c ((m2.es.set (I + 1) (a61, e.2.1 + 1, c61)).map trV), A.blk p #[hdV m2, .int .i64 n'] 35, BfK KdB bufs2]) (by rfl)
    clear back kF kG d hF
    refine ⟨_, _, _, rfl, k.rd (by rfl), ?_⟩
    have ew3 : IntKind.i64.wrap ((I : Int) + 2) = ((I + 2 : Nat) : Int) := by rw [wrap_id (by omega) (by omega)]; omega
    have ew4 : IntKind.i64.wrap ((I : Int) + 3) = ((I + 3 : Nat) : Int) := by rw [wrap_id (by omega) (by omega)]; omega
    rw [ew3, ew4]
    refine tr_set (e := (a83, e.2.1 + min (e.2.2 - e.2.1) 70000, c83)) k hl3 (by omega) fun h85 k => ?_
    have ok4 := CgOk.set (r := 2) (e := (a83, e.2.1 + min (e.2.2 - e.2.1) 70000, c83)) ok3 (by omega) hI3 (by omega) (by omega) cov2 on2
    refine ⟨j - (j2 + 1), by omega, j2 + 1, ⟨m2.a, m2.c, (m2.es.set (I + 1) (a61, e.2.1 + 1, c61)).set (I + 2) (a83, e.2.1 + min (e.2.2 - e.2.1) 70000, c83), bufs2⟩, by congr 1; omega, by omega, rfl, ok4, by rw [List.length_set, hl3]; exact hml, ?_⟩
    have hl5 : ((m2.es.set (I + 1) (a61, e.2.1 + 1, c61)).set (I + 2) (a83, e.2.1 + min (e.2.2 - e.2.1) 70000, c83)).length = m2.es.length := by rw [List.length_set, hl3]
    simp only [hdA, hdV, hl5]
    exact k.pull1
  · have hge : ¬ ((m.es.length + 3 * j2 : Nat) : Int) < (m2.es.length : Int) := of_decide_eq_false hc
    exact ⟨rfl, m2, n', ok2, by omega, k⟩
end Go.Proofs.YtgdgebmlcgohhaaGreatDoor.F
