/- The laws of the log: a list is taken into the book. Conditions: none. -/
import Derived.Test.YtbaglaoefaoaoaaDoorLS
namespace Go.Proofs.YtbaglaoefaoaoaaDoor.F
open Go Go.VC Go.Proofs
set_option linter.unusedSimpArgs false
set_option linter.unusedVariables false
set_option maxRecDepth 100000
attribute [local irreducible] CallsH RunsTo PureTo

variable {S F G : Nat → Prop} {h0 h h1 : Heap} {L R L' : List A} {a b0 la wa : Option Addr} {l c l2 c2 p b cl cw : Nat} {bs cs : List UInt8} {bss css : List Bytes} {s : LogS}
theorem vidx_of {g o n i : Nat} {a : Option Addr} {K : Addr → Prop} (hg : a = some ⟨g, o, none⟩) (hi : i < n) (q : K ⟨g, o + i, none⟩) : VIdx a n (i : Int) 1 K := by
  subst hg; exact vidx_at hi q
theorem set_mk {q k : Nat} {xs : Bytes} (hk : k < xs.length) : (mkL q k ++ xs.drop k).set k (mrk q k) = mkL q (k + 1) ++ xs.drop (k + 1) := by
  rw [List.set_append_right _ _ (by rw [mkL_len]; omega), mkL_len, Nat.sub_self, List.drop_eq_getElem_cons hk, List.set_cons_zero, ← mkL_next, List.append_assoc]; rfl
theorem set_pat {τ : Type} {f : τ → Nat → Value} {t : τ} {k : Nat} {vs : List Value} (hk : k < vs.length) : (patV f t k ++ vs.drop k).set k (f t k) = patV f t (k + 1) ++ vs.drop (k + 1) := by
  rw [List.set_append_right _ _ (by rw [patV_len]; omega), patV_len, Nat.sub_self, List.drop_eq_getElem_cons hk, List.set_cons_zero, ← patV_next, List.append_assoc]; rfl
theorem map_set_tr (es : List Tr) (i : Nat) (e : Tr) : (es.map trV).set i (trV e) = (es.set i e).map trV := by rw [List.map_set]
theorem tr_one {es : List Tr} {i n : Nat} {e : Tr} {K : Addr → Prop} (hs : Sl h a (es.map trV)) (hn : es.length = n) (he : es[i]? = some e) (q : ∀ ad, cellH h ad = some (trV e) → K ad) : VIdx a n (i : Int) 1 K := by
  subst hn
  have hlt := (List.getElem?_eq_some_iff.1 he).1
  refine hs.one rfl (by omega) (by omega) fun ad x hx hc => ?_
  rw [Int.toNat_natCast, he] at hx
  cases hx
  exact q ad hc
theorem tr_set {e2 : Nat} {es : List Tr} {i n : Nat} {e : Tr} {K : Heap → Prop} (k : St S h0 h (A.vec e2 1 a n c (es.map trV) :: R)) (hi : i < n) (q : ∀ h', St S h0 h' (A.vec e2 1 a n c ((es.set i e).map trV) :: R) → K h') : VIdx a n (i : Int) 1 fun ad => VStore h ad (trV e) K := by
  have hv := (k.vec (a := a)).1.le
  obtain ⟨g, o, rfl⟩ := k.vaddr (by omega)
  refine vidx_at hi (St.vset (P := Tryd.prog) k hi fun h' k => q h' ?_)
  rwa [map_set_tr] at k
theorem grow_one {es : List Tr} {bufs : List (Bf Nat)} {ba : Option Addr} {bc nE i d n : Nat} {e : Tr} {v1 v2 : Value} (k : St S h0 h (Bfs 5 fB bufs :: A.vec 26 1 ba nE bc (es.map trV) :: A.blk p #[.slice ba nE bc, v1, v2] 66 :: R)) (hn : es.length = nE) (eok : EsOk es bufs) (he : es[i]? = some e) (hi4 : i % 4 = 0) (hi : i + d < nE) (hd : 1 ≤ d ∧ d ≤ 3) (hE : nE < 4611686018427387904) (hb : e.2.1 + n ≤ 140737488355328) {K : Heap → Prop}
    (q : ∀ h' es' bufs', es'.length = nE → EsOk es' bufs' → (∀ x, x % 4 = 0 → es'[x]? = es[x]?) → St S h0 h' (Bfs 5 fB bufs' :: A.vec 26 1 ba nE bc (es'.map trV) :: A.blk p #[.slice ba nE bc, v1, v2] 66 :: R) → K h') :
    CallsH Tryd.prog 42 #[.slice e.1 e.2.1 e.2.2, .int .i64 i, .int .i64 n] h fun v h' => ∃ (a : Option Addr) (l c : Nat), v = .slice a l c ∧ cellH h' ⟨p, 0, none⟩ = some (.slice ba nE bc) ∧ VIdx ba nE (IntKind.i64.wrap ((i : Int) + (d : Int))) 1 fun ad => VStore h' ad (.slice a l c) K := by
  have on : On bufs (i / 4) e.1 e.2.1 e.2.2 := by
    rcases eok i e he with ⟨h, _⟩ | o
    · exact absurd hi4 h
    · exact o
  refine longer_spec k on rfl (by omega) hb fun bufs' a' c' h' cov on' k => ⟨_, _, _, rfl, k.rd (by rfl), ?_⟩
  have ew : IntKind.i64.wrap ((i : Int) + (d : Int)) = ((i + d : Nat) : Int) := by rw [wrap_id (by omega) (by omega)]; omega
  rw [ew]
  refine tr_set (e := (a', e.2.1 + n, c')) k.pull1 hi fun h2 k => ?_
  refine q h2 (es.set (i + d) (a', e.2.1 + n, c')) bufs' (by rw [List.length_set, hn]) ((eok.cov cov).set (by rw [show (i + d) / 4 = i / 4 by omega]; exact on')) (fun x hx => ?_) k.pull1
  rw [List.getElem?_set_ne (by omega)]
theorem take_spec {m : BkM} (ok : BkOk m) (k : Holds (BookL p m ++ [LV a l c bss]) F h) (h1 : tot bss ≤ 1099511627776) (h2 : m.total ≤ 1125899906842624) (h3 : m.es.length + 4 * bss.length ≤ 4398046511104) (h4 : m.ls.length + 4 ≤ 4398046511104) :
    CallsH Tryd.prog 21 #[.pointer (some ⟨p, 0, none⟩), .slice a l c] h (fun v h' => v = .tuple #[] ∧ ∃ m', BkOk m' ∧ m'.total ≤ m.total + 150 * tot bss ∧ m.total + 150 * bss.length ≤ m'.total ∧ m'.es.length = m.es.length + 4 * bss.length ∧ m'.ls.length = m.ls.length + 4 ∧ St F h h' (BookL p m')) := by
  refine vf21 _ _ _ _ h _ ?_
  unfold F21
  have k := St.start k
  simp only [BookL, List.cons_append, List.nil_append] at k
  have hll := LV.len k.pull6
  obtain ⟨xs, hxs, w⟩ := LV.open k.pull6
  subst hxs
  clear k
  have k := w
  clear w
  have hxl : xs.length = l := by rw [← hll.1, List.length_map]
  have htl := tot_len (xs.map Sg.bs)
  rw [List.length_map] at htl h3
  have hxe : (xs.map Sg.bs).length = l := hll.1
  rw [hxe]
  refine VSome.mk ⟨_, _, _, k.rd (by rfl), ?_⟩
  have hst : ∃ n, ∃ (j : Nat) (ba : Option Addr) (bc total : Nat) (es : List Tr) (bufs : List (Bf Nat)), (0 : Int) = j ∧ j ≤ l ∧ n = l - j ∧ es.length = m.es.length + 4 * j ∧ EsOk es bufs ∧ (∀ (i : Nat) e, m.es.length ≤ i → i % 4 = 0 → es[i]? = some e → e.2.1 ≤ 1099511627776) ∧ m.total + 150 * j ≤ total ∧ total ≤ m.total + 150 * tot ((xs.take j).map Sg.bs) ∧
      St F h h [A.vec 26 1 a l c (xs.map sgV), A.all ((xs.drop j).map BS), A.blk p #[.slice ba es.length bc, .slice m.la m.ls.length m.lc, .int .i64 total] 66, A.vec 26 1 ba es.length bc (es.map trV), A.vec 25 1 m.la m.ls.length m.lc (m.ls.map trV), Bfs 5 fB bufs, Bfs 26 fL m.lbufs, A.all (m.ones.map oneA)] :=
    ⟨_, 0, m.ba, m.bc, m.total, m.es, m.bufs, rfl, by omega, rfl, rfl, ok.es, fun i e h1 _ h2 => by have := (List.getElem?_eq_some_iff.1 h2).1; omega, Nat.le_refl _, Nat.le_add_right _ _, k⟩
  refine ⟨fun n hh i => ∃ (j : Nat) (ba : Option Addr) (bc total : Nat) (es : List Tr) (bufs : List (Bf Nat)), i = j ∧ j ≤ l ∧ n = l - j ∧ es.length = m.es.length + 4 * j ∧ EsOk es bufs ∧ (∀ (i : Nat) e, m.es.length ≤ i → i % 4 = 0 → es[i]? = some e → e.2.1 ≤ 1099511627776) ∧ m.total + 150 * j ≤ total ∧ total ≤ m.total + 150 * tot ((xs.take j).map Sg.bs) ∧
      St F h hh [A.vec 26 1 a l c (xs.map sgV), A.all ((xs.drop j).map BS), A.blk p #[.slice ba es.length bc, .slice m.la m.ls.length m.lc, .int .i64 total] 66, A.vec 26 1 ba es.length bc (es.map trV), A.vec 25 1 m.la m.ls.length m.lc (m.ls.map trV), Bfs 5 fB bufs, Bfs 26 fL m.lbufs, A.all (m.ones.map oneA)], hst, ?_⟩
  clear hst k
  rintro n hh _ i ⟨j, ba, bc, total, es, bufs, rfl, hj, rfl, hel, eok, sml, hlo, htt, k⟩
  refine cond_split (fun hc => ?_) (fun hc => ?_)
  · have hjl : j < l := Int.ofNat_lt.1 (of_decide_eq_true hc)
    have hjx : j < xs.length := by omega
    have hx : xs[j]? = some xs[j] := List.getElem?_eq_getElem hjx
    have hdrop : (xs.drop j).map BS = BS xs[j] :: (xs.drop (j + 1)).map BS := by rw [List.drop_eq_getElem_cons hjx]; rfl
    have htake : (xs.take (j + 1)).map Sg.bs = (xs.take j).map Sg.bs ++ [xs[j].bs] := by rw [List.take_add_one, hx, Option.toList_some, List.map_append]; rfl
    have htot1 : tot ((xs.take (j + 1)).map Sg.bs) = tot ((xs.take j).map Sg.bs) + (xs[j].bs.length + 1) := by
      rw [htake, tot_app]
      have : tot [xs[j].bs] = xs[j].bs.length + 1 + 0 := rfl
      omega
    have htotle : tot ((xs.take (j + 1)).map Sg.bs) ≤ tot (xs.map Sg.bs) := by rw [List.map_take]; exact tot_take _ _
    have k := k.pull1
    rw [hdrop] at k
    have k := k.allOut
    generalize hxg : xs[j] = x at *
    have hbl := BS.len k
    have hq4 : es.length / 4 < 4611686018427387904 := by omega
    have ix : ∀ {hh : Heap} {K : Addr → Prop}, Sl hh a (xs.map sgV) → (∀ ad, cellH hh ad = some (sgV x) → K ad) → VIdx a l (j : Int) 1 K := fun hs q => hs.one hxl (by omega) (by omega) fun ad y hy hc => by
      rw [Int.toNat_natCast, hx] at hy
      cases hy
      exact q ad hc
    have hst : ∃ n, ∃ r : Nat, (0 : Int) = r ∧ r ≤ x.l ∧ n = x.l - r ∧ St F h hh [BV x.a x.l x.c (mkL (es.length / 4) r ++ x.bs.drop r), A.all ((xs.drop (j + 1)).map BS), A.vec 26 1 a l c (xs.map sgV), A.blk p #[.slice ba es.length bc, .slice m.la m.ls.length m.lc, .int .i64 total] 66, A.vec 26 1 ba es.length bc (es.map trV), A.vec 25 1 m.la m.ls.length m.lc (m.ls.map trV), Bfs 5 fB bufs, Bfs 26 fL m.lbufs, A.all (m.ones.map oneA)] :=
      ⟨_, 0, rfl, by omega, rfl, k⟩
    refine ⟨fun n hh i => ∃ r : Nat, i = r ∧ r ≤ x.l ∧ n = x.l - r ∧ St F h hh [BV x.a x.l x.c (mkL (es.length / 4) r ++ x.bs.drop r), A.all ((xs.drop (j + 1)).map BS), A.vec 26 1 a l c (xs.map sgV), A.blk p #[.slice ba es.length bc, .slice m.la m.ls.length m.lc, .int .i64 total] 66, A.vec 26 1 ba es.length bc (es.map trV), A.vec 25 1 m.la m.ls.length m.lc (m.ls.map trV), Bfs 5 fB bufs, Bfs 26 fL m.lbufs, A.all (m.ones.map oneA)], hst, ?_⟩
    clear hst k
    rintro n hh _ i ⟨r, rfl, hr, rfl, k⟩
    refine ix (k.drop.drop.sl (a := a)) fun ad hc1 => ⟨_, _, _, hc1, cond_split (fun hc => ?_) (fun hc => ?_)⟩
    · have hrl : r < x.l := Int.ofNat_lt.1 (of_decide_eq_true hc)
      refine ix (k.drop.drop.sl (a := a)) fun ad2 hc2 => ⟨_, _, _, hc2, VSome.mk ⟨_, _, _, k.rd (by rfl), ?_⟩⟩
      refine CallsH.mono (mark_spec es.length r (by omega)) ?_
      rintro _ hh ⟨rfl, rfl⟩
      obtain ⟨g, o, hg⟩ := k.vaddr (by omega)
      refine ⟨_, rfl, hc2, vidx_of hg hrl ?_⟩
      refine BS.put (x := ⟨x.a, x.l, x.c, mkL (es.length / 4) r ++ x.bs.drop r⟩) (b := mrk (es.length / 4) r) k hg hrl fun h' k => ?_
      refine ⟨x.l - (r + 1), by omega, r + 1, by rw [wrap_id (by omega) (by omega)]; omega, hrl, rfl, ?_⟩
      have k := k.re (y := BV x.a x.l x.c (mkL (es.length / 4) (r + 1) ++ x.bs.drop (r + 1))) (by show BV x.a x.l x.c ((mkL (es.length / 4) r ++ x.bs.drop r).set r (mrk (es.length / 4) r)) = _; rw [set_mk (by omega)])
      exact k
    · have hrl : r = x.l := by
        have : ¬ (r : Int) < x.l := of_decide_eq_false hc
        omega
      subst hrl
      refine VSome.mk ⟨_, _, _, k.rd (by rfl), ix (k.drop.drop.sl (a := a)) fun ad2 hc2 => ⟨_, _, _, hc2, k.vnew fun b30 h31 k => ⟨k.rd (by rfl), ?_⟩⟩⟩
      have hs30 : Sl h31 (some ⟨b30, 0, none⟩) [.slice x.a x.l x.c, .slice none 0 0, .slice none 0 0, .slice none 0 0] := k.slB (b := b30)
      have k : St F h h31 [A.blk b30 #[.slice x.a x.l x.c, .slice none 0 0, .slice none 0 0, .slice none 0 0] 26, BV x.a x.l x.c (mkL (es.length / 4) x.l ++ x.bs.drop x.l), A.all ((xs.drop (j + 1)).map BS), A.vec 26 1 a l c (xs.map sgV), A.blk p #[.slice ba es.length bc, .slice m.la m.ls.length m.lc, .int .i64 total] 66, A.vec 26 1 ba es.length bc (es.map trV), A.vec 25 1 m.la m.ls.length m.lc (m.ls.map trV), Bfs 5 fB bufs, Bfs 26 fL m.lbufs, A.all (m.ones.map oneA)] := k
      refine k.pull5.app T25 und25 (by simp) (Src.slice hs30 rfl) (by simp [oneC]) (by omega) fun a34 c34 h33 k => ⟨_, _, _, rfl, VSome.mk ?_⟩
      refine k.vst (by simp) fun h36 k => VSome.mk ⟨_, k.rd (by rfl), ?_⟩
      have k : St F h h36 [A.vec 26 1 a34 (es.length + 4) c34 (es.map trV ++ [.slice x.a x.l x.c, .slice none 0 0, .slice none 0 0, .slice none 0 0]), A.blk b30 #[.slice x.a x.l x.c, .slice none 0 0, .slice none 0 0, .slice none 0 0] 26, BV x.a x.l x.c (mkL (es.length / 4) x.l ++ x.bs.drop x.l), A.all ((xs.drop (j + 1)).map BS), A.vec 26 1 a l c (xs.map sgV), A.blk p #[.slice a34 (es.length + 4) c34, .slice m.la m.ls.length m.lc, .int .i64 total] 66, A.vec 25 1 m.la m.ls.length m.lc (m.ls.map trV), Bfs 5 fB bufs, Bfs 26 fL m.lbufs, A.all (m.ones.map oneA)] := k
      refine ix (k.drop.drop.drop.drop.sl (a := a)) fun ad3 hc3 => ⟨_, _, _, hc3, VSome.mk ?_⟩
      have ew : IntKind.i64.wrap (IntKind.i64.wrap ((total : Int) + (x.l : Int)) + 150) = ((total + x.l + 150 : Nat) : Int) := by
        rw [wrap_id (n := (total : Int) + (x.l : Int)) (by omega) (by omega), wrap_id (by omega) (by omega)]; omega
      rw [ew]
      refine k.vst (by simp) fun h42 k => ?_
      have k : St F h h42 [A.vec 26 1 a34 (es.length + 4) c34 (es.map trV ++ [.slice x.a x.l x.c, .slice none 0 0, .slice none 0 0, .slice none 0 0]), A.blk b30 #[.slice x.a x.l x.c, .slice none 0 0, .slice none 0 0, .slice none 0 0] 26, BV x.a x.l x.c (mkL (es.length / 4) x.l ++ x.bs.drop x.l), A.all ((xs.drop (j + 1)).map BS), A.vec 26 1 a l c (xs.map sgV), A.blk p #[.slice a34 (es.length + 4) c34, .slice m.la m.ls.length m.lc, .int .i64 (total + x.l + 150 : Nat)] 66, A.vec 25 1 m.la m.ls.length m.lc (m.ls.map trV), Bfs 5 fB bufs, Bfs 26 fL m.lbufs, A.all (m.ones.map oneA)] := k
      have k : St F h h42 [BV x.a x.l x.c (mkL (es.length / 4) x.l ++ x.bs.drop x.l), Bfs 5 fB bufs, A.vec 26 1 a34 (es.length + 4) c34 (es.map trV ++ [.slice x.a x.l x.c, .slice none 0 0, .slice none 0 0, .slice none 0 0]), A.vec 26 1 a l c (xs.map sgV), A.all ((xs.drop (j + 1)).map BS), A.blk p #[.slice a34 (es.length + 4) c34, .slice m.la m.ls.length m.lc, .int .i64 (total + x.l + 150 : Nat)] 66, A.vec 25 1 m.la m.ls.length m.lc (m.ls.map trV), Bfs 26 fL m.lbufs, A.all (m.ones.map oneA), A.blk b30 #[.slice x.a x.l x.c, .slice none 0 0, .slice none 0 0, .slice none 0 0] 26] := k.sel 10 [2, 7, 0, 4, 3, 5, 6, 8, 9, 1] rfl (by decide) (by rfl)
      have k := k.re (y := bfA 5 fB ⟨es.length / 4, x.a, x.l, x.c⟩) (by
        unfold bfA
        show A.vec 5 1 x.a x.l x.c (bytesV (mkL (es.length / 4) x.l ++ x.bs.drop x.l)) = _
        rw [List.drop_of_length_le (by omega), List.append_nil, mkL_pat])
      have k := St.allIn (L := bufs.map (bfA 5 fB)) k
      have el2 : (es ++ [(x.a, x.l, x.c), nilT, nilT, nilT]).length = es.length + 4 := by simp
      refine ⟨l - (j + 1), by omega, j + 1, a34, c34, total + x.l + 150, es ++ [(x.a, x.l, x.c), nilT, nilT, nilT], ⟨es.length / 4, x.a, x.l, x.c⟩ :: bufs, by rw [wrap_id (by omega) (by omega)]; omega, hjl, rfl, by omega, ?_, ?_, by omega, by omega, ?_⟩
      · have h4 := ok.e4
        intro i e he
        by_cases hi : i < es.length
        · rw [List.getElem?_append_left hi] at he
          exact (eok.cov (Cov.cons _ _)) i e he
        · rw [List.getElem?_append_right (by omega)] at he
          have hi2 := (List.getElem?_eq_some_iff.1 he).1
          have hi2 : i - es.length < 4 := hi2
          have hc : i - es.length = 0 ∨ i - es.length = 1 ∨ i - es.length = 2 ∨ i - es.length = 3 := by omega
          rcases hc with hc | hc | hc | hc <;> rw [hc] at he <;> cases he
          · refine .inr ⟨_, List.mem_cons_self, ?_, rfl, rfl, Nat.le_refl _⟩
            show es.length / 4 = i / 4
            omega
          · exact .inl ⟨by omega, rfl⟩
          · exact .inl ⟨by omega, rfl⟩
          · exact .inl ⟨by omega, rfl⟩
      · have h4 := ok.e4
        intro i e h1' hi4 he
        by_cases hi : i < es.length
        · rw [List.getElem?_append_left hi] at he
          exact sml i e h1' hi4 he
        · rw [List.getElem?_append_right (by omega)] at he
          have hi2 := (List.getElem?_eq_some_iff.1 he).1
          have hi2 : i - es.length < 4 := hi2
          have hc : i - es.length = 0 := by omega
          rw [hc] at he
          cases he
          show x.l ≤ _
          omega
      · rw [el2, List.map_append]
        have k : St F h h42 [Bfs 5 fB (⟨es.length / 4, x.a, x.l, x.c⟩ :: bufs), A.vec 26 1 a34 (es.length + 4) c34 (es.map trV ++ [(x.a, x.l, x.c), nilT, nilT, nilT].map trV), A.vec 26 1 a l c (xs.map sgV), A.all ((xs.drop (j + 1)).map BS), A.blk p #[.slice a34 (es.length + 4) c34, .slice m.la m.ls.length m.lc, .int .i64 (total + x.l + 150 : Nat)] 66, A.vec 25 1 m.la m.ls.length m.lc (m.ls.map trV), Bfs 26 fL m.lbufs, A.all (m.ones.map oneA), A.blk b30 #[.slice x.a x.l x.c, .slice none 0 0, .slice none 0 0, .slice none 0 0] 26] := k
        have k : St F h h42 [A.blk b30 #[.slice x.a x.l x.c, .slice none 0 0, .slice none 0 0, .slice none 0 0] 26, A.vec 26 1 a l c (xs.map sgV), A.all ((xs.drop (j + 1)).map BS), A.blk p #[.slice a34 (es.length + 4) c34, .slice m.la m.ls.length m.lc, .int .i64 (total + x.l + 150 : Nat)] 66, A.vec 26 1 a34 (es.length + 4) c34 (es.map trV ++ [(x.a, x.l, x.c), nilT, nilT, nilT].map trV), A.vec 25 1 m.la m.ls.length m.lc (m.ls.map trV), Bfs 5 fB (⟨es.length / 4, x.a, x.l, x.c⟩ :: bufs), Bfs 26 fL m.lbufs, A.all (m.ones.map oneA)] := k.sel 9 [8, 2, 3, 4, 1, 5, 0, 6, 7] rfl (by decide) (by rfl)
        exact k.drop
  · have hjl : j = l := by
      have : ¬ (j : Int) < l := of_decide_eq_false hc
      omega
    subst hjl
    rw [List.take_of_length_le (by omega)] at htt
    have k := k.pull1.drop
    refine VSome.mk ⟨_, _, _, k.rd (by rfl), VSome.mk ⟨_, _, _, k.rd (by rfl), VSome.mk ⟨_, _, _, k.rd (by rfl), ?_⟩⟩⟩
    refine CallsH.mono (mark_spec m.ls.length 0 (by omega)) ?_
    rintro _ hh ⟨rfl, rfl⟩
    refine ⟨_, rfl, k.rd (by rfl), k.rd (by rfl), CallsH.mono (mark_spec m.ls.length 1 (by omega)) ?_⟩
    rintro _ hh ⟨rfl, rfl⟩
    refine ⟨_, rfl, k.rd (by rfl), CallsH.mono (mark_spec m.ls.length 2 (by omega)) ?_⟩
    rintro _ hh ⟨rfl, rfl⟩
    refine ⟨_, rfl, k.vnew fun b58 h59 k => ?_⟩
    generalize hql : m.ls.length / 4 = ql at *
    have hst : ∃ n, ∃ r : Nat, (0 : Int) = r ∧ r ≤ j ∧ n = j - r ∧ St F h h59 [A.vec 26 1 a j c (patV fL (ql, b58) r ++ (xs.map sgV).drop r), oneA (ql, b58), A.blk p #[.slice ba es.length bc, .slice m.la m.ls.length m.lc, .int .i64 total] 66, A.vec 26 1 ba es.length bc (es.map trV), A.vec 25 1 m.la m.ls.length m.lc (m.ls.map trV), Bfs 5 fB bufs, Bfs 26 fL m.lbufs, A.all (m.ones.map oneA)] :=
      ⟨_, 0, rfl, by omega, rfl, k.pull1⟩
    refine ⟨fun n hh i => ∃ r : Nat, i = r ∧ r ≤ j ∧ n = j - r ∧ St F h hh [A.vec 26 1 a j c (patV fL (ql, b58) r ++ (xs.map sgV).drop r), oneA (ql, b58), A.blk p #[.slice ba es.length bc, .slice m.la m.ls.length m.lc, .int .i64 total] 66, A.vec 26 1 ba es.length bc (es.map trV), A.vec 25 1 m.la m.ls.length m.lc (m.ls.map trV), Bfs 5 fB bufs, Bfs 26 fL m.lbufs, A.all (m.ones.map oneA)], hst, ?_⟩
    clear hst k
    rintro n hh _ i ⟨r, rfl, hr, rfl, k⟩
    refine cond_split (fun hc => ?_) (fun hc => ?_)
    · have hrl : r < j := Int.ofNat_lt.1 (of_decide_eq_true hc)
      obtain ⟨g, o, hg⟩ := k.vaddr (by omega)
      refine vidx_of hg hrl ?_
      have k2 : St F h hh (A.vec 26 1 (some ⟨g, o, none⟩) j c (patV fL (ql, b58) r ++ (xs.map sgV).drop r) :: _) := hg ▸ k
      refine St.vset (P := Tryd.prog) (v := fL (ql, b58) r) k2 hrl fun h' k => ⟨j - (r + 1), by omega, r + 1, by rw [wrap_id (by omega) (by omega)]; omega, hrl, rfl, ?_⟩
      rw [set_pat (by rw [List.length_map]; omega), ← hg] at k
      exact k
    · have hrl : r = j := by
        have : ¬ (r : Int) < j := of_decide_eq_false hc
        omega
      subst hrl
      have h4e := ok.e4
      have h4l := ok.l4
      have hcl := (k.vec (a := a)).1.le
      have hcc := (k.vec (a := a)).2.2
      have k : St F h hh [A.vec 26 1 a r c (patV fL (ql, b58) r ++ (xs.map sgV).drop r), Bfs 26 fL m.lbufs, oneA (ql, b58), A.all (m.ones.map oneA), A.blk p #[.slice ba es.length bc, .slice m.la m.ls.length m.lc, .int .i64 total] 66, A.vec 26 1 ba es.length bc (es.map trV), A.vec 25 1 m.la m.ls.length m.lc (m.ls.map trV), Bfs 5 fB bufs] := k.sel 8 [0, 6, 1, 7, 2, 3, 4, 5] rfl (by decide) (by rfl)
      have k := k.re (y := bfA 26 fL ⟨(ql, b58), a, r, c⟩) (by
        unfold bfA
        rw [List.drop_of_length_le (by rw [List.length_map]; omega), List.append_nil])
      have k := St.allIn (L := m.lbufs.map (bfA 26 fL)) k
      have k := (St.allIn (L := m.ones.map oneA) k.pull2.pull2)
      have k : St F h hh [A.all (((ql, b58) :: m.ones).map oneA), Bfs 26 fL (⟨(ql, b58), a, r, c⟩ :: m.lbufs), A.blk p #[.slice ba es.length bc, .slice m.la m.ls.length m.lc, .int .i64 total] 66, A.vec 26 1 ba es.length bc (es.map trV), A.vec 25 1 m.la m.ls.length m.lc (m.ls.map trV), Bfs 5 fB bufs] := k
      generalize hlb2 : (⟨(ql, b58), a, r, c⟩ :: m.lbufs : List (Bf (Nat × Nat))) = lb2 at *
      generalize hon2 : ((ql, b58) :: m.ones : List (Nat × Nat)) = on2 at *
      have onl : On lb2 (ql, b58) a r c := by rw [← hlb2]; exact ⟨_, List.mem_cons_self, rfl, rfl, rfl, Nat.le_refl _⟩
      have lok : LsOk m.ls lb2 on2 := by
        intro i e he
        rcases ok.ls i e he with h | ⟨b, hb, o⟩
        · exact .inl h
        · refine .inr ⟨b, by rw [← hon2]; exact List.mem_cons_of_mem _ hb, o.cov ?_⟩
          rw [← hlb2]; exact Cov.cons _ _
      clear hlb2
      have k : St F h hh [Bfs 5 fB bufs, A.vec 26 1 ba es.length bc (es.map trV), A.blk p #[.slice ba es.length bc, .slice m.la m.ls.length m.lc, .int .i64 total] 66, A.vec 25 1 m.la m.ls.length m.lc (m.ls.map trV), Bfs 26 fL lb2, A.all (on2.map oneA)] := k.sel 6 [5, 3, 2, 4, 1, 0] rfl (by decide) (by rfl)
      have hst : ∃ n, ∃ (t : Nat) (es' : List Tr) (bufs' : List (Bf Nat)), (m.es.length : Int) = ((m.es.length + 4 * t : Nat) : Int) ∧ t ≤ r ∧ n = r - t ∧ es'.length = es.length ∧ EsOk es' bufs' ∧ (∀ (i : Nat) e, m.es.length ≤ i → i % 4 = 0 → es'[i]? = some e → e.2.1 ≤ 1099511627776) ∧
          St F h hh [Bfs 5 fB bufs', A.vec 26 1 ba es.length bc (es'.map trV), A.blk p #[.slice ba es.length bc, .slice m.la m.ls.length m.lc, .int .i64 total] 66, A.vec 25 1 m.la m.ls.length m.lc (m.ls.map trV), Bfs 26 fL lb2, A.all (on2.map oneA)] := ⟨_, 0, es, bufs, rfl, by omega, rfl, rfl, eok, sml, k⟩
      refine ⟨fun n hh i => ∃ (t : Nat) (es' : List Tr) (bufs' : List (Bf Nat)), i = ((m.es.length + 4 * t : Nat) : Int) ∧ t ≤ r ∧ n = r - t ∧ es'.length = es.length ∧ EsOk es' bufs' ∧ (∀ (i : Nat) e, m.es.length ≤ i → i % 4 = 0 → es'[i]? = some e → e.2.1 ≤ 1099511627776) ∧
          St F h hh [Bfs 5 fB bufs', A.vec 26 1 ba es.length bc (es'.map trV), A.blk p #[.slice ba es.length bc, .slice m.la m.ls.length m.lc, .int .i64 total] 66, A.vec 25 1 m.la m.ls.length m.lc (m.ls.map trV), Bfs 26 fL lb2, A.all (on2.map oneA)], hst, ?_⟩
      clear hst k
      rintro n hh _ i ⟨t, es', bufs', rfl, ht, rfl, hel', eok', sml', k⟩
      refine VSome.mk ⟨_, _, _, k.rd (by rfl), cond_split (fun hc => ?_) (fun hc => ?_)⟩
      · have htr : t < r := by
          have : ((m.es.length + 4 * t : Nat) : Int) < es.length := of_decide_eq_true hc
          omega
        obtain ⟨e, he⟩ : ∃ e, es'[m.es.length + 4 * t]? = some e := ⟨_, List.getElem?_eq_getElem (by omega)⟩
        have hel1 := sml' _ e (by omega) (by omega) he
        refine VSome.mk ⟨_, _, _, k.rd (by rfl), VSome.mk ⟨_, _, _, k.rd (by rfl), tr_one (k.drop.sl (a := ba)) hel' he fun ad hc1 => ⟨_, _, _, hc1, ?_⟩⟩⟩
        refine grow_one (d := 1) (n := 1) k hel' eok' he (by omega) (by omega) (by omega) (by omega) (by omega) fun h86 es2 bufs2 hel2 eok2 same2 k => ?_
        have he2 : es2[m.es.length + 4 * t]? = some e := by rw [same2 _ (by omega)]; exact he
        refine VSome.mk ⟨_, _, _, k.rd (by rfl), VSome.mk ⟨_, _, _, k.rd (by rfl), tr_one (k.drop.sl (a := ba)) hel2 he2 fun ad hc1 => ⟨_, _, _, hc1, ?_⟩⟩⟩
        refine grow_one (d := 2) (n := 2) k hel2 eok2 he2 (by omega) (by omega) (by omega) (by omega) (by omega) fun h97 es3 bufs3 hel3 eok3 same3 k => ?_
        refine ⟨r - (t + 1), by omega, t + 1, es3, bufs3, by rw [wrap_id (by omega) (by omega)]; omega, htr, rfl, hel3, eok3, fun i e h1 h2 h3 => ?_, k⟩
        rw [same3 i h2, same2 i h2] at h3
        exact sml' i e h1 h2 h3
      · clear hc
        have hst : ∃ n, ∃ (t : Nat) (es' : List Tr) (bufs' : List (Bf Nat)), (m.es.length : Int) = ((m.es.length + 4 * t : Nat) : Int) ∧ t ≤ r ∧ n = r - t ∧ es'.length = es.length ∧ EsOk es' bufs' ∧ (∀ (i : Nat) e, m.es.length ≤ i → i % 4 = 0 → es'[i]? = some e → e.2.1 ≤ 1099511627776) ∧
            St F h hh [Bfs 5 fB bufs', A.vec 26 1 ba es.length bc (es'.map trV), A.blk p #[.slice ba es.length bc, .slice m.la m.ls.length m.lc, .int .i64 total] 66, A.vec 25 1 m.la m.ls.length m.lc (m.ls.map trV), Bfs 26 fL lb2, A.all (on2.map oneA)] := ⟨_, 0, es', bufs', rfl, by omega, rfl, hel', eok', sml', k⟩
        refine ⟨fun n hh i => ∃ (t : Nat) (es' : List Tr) (bufs' : List (Bf Nat)), i = ((m.es.length + 4 * t : Nat) : Int) ∧ t ≤ r ∧ n = r - t ∧ es'.length = es.length ∧ EsOk es' bufs' ∧ (∀ (i : Nat) e, m.es.length ≤ i → i % 4 = 0 → es'[i]? = some e → e.2.1 ≤ 1099511627776) ∧
            St F h hh [Bfs 5 fB bufs', A.vec 26 1 ba es.length bc (es'.map trV), A.blk p #[.slice ba es.length bc, .slice m.la m.ls.length m.lc, .int .i64 total] 66, A.vec 25 1 m.la m.ls.length m.lc (m.ls.map trV), Bfs 26 fL lb2, A.all (on2.map oneA)], hst, ?_⟩
        clear hst k eok' sml' hel'
        rintro n hh _ i ⟨t, es', bufs', rfl, ht, rfl, hel', eok', sml', k⟩
        refine VSome.mk ⟨_, _, _, k.rd (by rfl), cond_split (fun hc => ?_) (fun hc => ?_)⟩
        · have htr : t < r := by
            have : ((m.es.length + 4 * t : Nat) : Int) < es.length := of_decide_eq_true hc
            omega
          obtain ⟨e, he⟩ : ∃ e, es'[m.es.length + 4 * t]? = some e := ⟨_, List.getElem?_eq_getElem (by omega)⟩
          have hel1 := sml' _ e (by omega) (by omega) he
          have on : On bufs' ((m.es.length + 4 * t) / 4) e.1 e.2.1 e.2.2 := by
            rcases eok' _ e he with ⟨h, _⟩ | o
            · exact absurd (by omega) h
            · exact o
          obtain ⟨_, o2, o3⟩ := Bfs.sl k on
          refine VSome.mk ⟨_, _, _, k.rd (by rfl), VSome.mk ⟨_, _, _, k.rd (by rfl), tr_one (k.drop.sl (a := ba)) hel' he fun ad hc1 => ⟨_, _, _, hc1, ?_⟩⟩⟩
          refine VSome.mk ⟨_, _, _, k.rd (by rfl), tr_one (k.drop.sl (a := ba)) hel' he fun ad2 hc2 => ⟨_, _, _, hc2, ?_⟩⟩
          refine VSome.mk ⟨_, _, _, k.rd (by rfl), tr_one (k.drop.sl (a := ba)) hel' he fun ad3 hc3 => ⟨_, _, _, hc3, ?_⟩⟩
          have ew : IntKind.i64.wrap ((e.2.2 : Int) - (e.2.1 : Int)) = ((e.2.2 - e.2.1 : Nat) : Int) := by rw [wrap_id (by omega) (by omega)]; omega
          rw [ew]
          refine CallsH.mono (room_spec (e.2.2 - e.2.1)) ?_
          rintro _ hh ⟨rfl, rfl⟩
          refine ⟨_, rfl, hc1, k.rd (by rfl), k.rd (by rfl), ?_⟩
          refine grow_one (d := 3) (n := min (e.2.2 - e.2.1) 70000) k hel' eok' he (by omega) (by omega) (by omega) (by omega) (by omega) fun h127 es2 bufs2 hel2 eok2 same2 k => ?_
          refine ⟨r - (t + 1), by omega, t + 1, es2, bufs2, by rw [wrap_id (by omega) (by omega)]; omega, htr, rfl, hel2, eok2, fun i e h1 h2 h3 => ?_, k⟩
          rw [same2 i h2] at h3
          exact sml' i e h1 h2 h3
        · clear hc ht
          have k : St F h hh [Bfs 26 fL lb2, Bfs 5 fB bufs', A.vec 26 1 ba es.length bc (es'.map trV), A.blk p #[.slice ba es.length bc, .slice m.la m.ls.length m.lc, .int .i64 total] 66, A.vec 25 1 m.la m.ls.length m.lc (m.ls.map trV), A.all (on2.map oneA)] := k.sel 6 [4, 0, 1, 2, 3, 5] rfl (by decide) (by rfl)
          refine k.vnew fun b128 h129 k => ?_
          have hs128 : Sl h129 (some ⟨b128, 0, none⟩) [fL (ql, b58) r] := k.slB (b := b128)
          refine Bfs.app T25 und25 (by simp) k.pull1 onl (Src.slice hs128 rfl) rfl (by omega) fun lb3 a132 c132 h131 cov3 on3 k => ⟨_, _, _, rfl, ?_⟩
          have k := k.pull1.drop
          have onl3 := onl.cov cov3
          have ew : IntKind.i64.wrap ((c : Int) - (r : Int)) = ((c - r : Nat) : Int) := by rw [wrap_id (by omega) (by omega)]; omega
          rw [ew]
          have hst : ∃ n, ∃ (t : Nat) (lb4 : List (Bf (Nat × Nat))), (0 : Int) = t ∧ t ≤ min (c - r) 70000 ∧ n = min (c - r) 70000 - t ∧ r = r + t ∧ Cov lb3 lb4 ∧ On lb4 (ql, b58) a (r + t) c ∧
              St F h h131 [Bfs 26 fL lb4, Bfs 5 fB bufs', A.vec 26 1 ba es.length bc (es'.map trV), A.blk p #[.slice ba es.length bc, .slice m.la m.ls.length m.lc, .int .i64 total] 66, A.vec 25 1 m.la m.ls.length m.lc (m.ls.map trV), A.all (on2.map oneA)] := ⟨_, 0, lb3, rfl, by omega, rfl, rfl, .refl _, onl3, k⟩
          refine ⟨fun n hh ga gl gc i => ∃ (t : Nat) (lb4 : List (Bf (Nat × Nat))), i = t ∧ t ≤ min (c - r) 70000 ∧ n = min (c - r) 70000 - t ∧ gl = r + t ∧ Cov lb3 lb4 ∧ On lb4 (ql, b58) ga (r + t) gc ∧
              St F h hh [Bfs 26 fL lb4, Bfs 5 fB bufs', A.vec 26 1 ba es.length bc (es'.map trV), A.blk p #[.slice ba es.length bc, .slice m.la m.ls.length m.lc, .int .i64 total] 66, A.vec 25 1 m.la m.ls.length m.lc (m.ls.map trV), A.all (on2.map oneA)], hst, ?_⟩
          clear hst k
          rintro n hh _ ga gl gc i ⟨t, lb4, rfl, ht, rfl, rfl, cov4, on4, k⟩
          refine CallsH.mono (room_spec (c - r)) ?_
          rintro _ hh ⟨rfl, rfl⟩
          refine ⟨_, rfl, cond_split (fun hc => ?_) (fun hc => ?_)⟩
          · have htn : t < min (c - r) 70000 := Int.ofNat_lt.1 (of_decide_eq_true hc)
            refine k.vnew fun b143 h144 k => ?_
            have hs143 : Sl h144 (some ⟨b143, 0, none⟩) [fL (ql, b58) (r + t)] := k.slB (b := b143)
            refine Bfs.app T25 und25 (by simp) k.pull1 on4 (Src.slice hs143 rfl) rfl (by omega) fun lb5 a147 c147 h146 cov5 on5 k => ⟨_, _, _, rfl, ?_⟩
            exact ⟨min (c - r) 70000 - (t + 1), by omega, t + 1, lb5, by rw [wrap_id (by omega) (by omega)]; omega, htn, rfl, rfl, cov4.trans cov5, on5, k.pull1.drop⟩
          · clear hc
            refine VSome.mk ⟨_, _, _, k.rd (by rfl), k.vnew fun b150 h151 k => ?_⟩
            have hs150 : Sl h151 (some ⟨b150, 0, none⟩) [.slice a r c, .slice a132 (r + 1) c132, .slice ga (r + t) gc, .slice none 0 0] := k.slB (b := b150)
            refine k.pull5.app T64 und64 (by simp) (Src.slice hs150 rfl) (by simp [oneC]) (by omega) fun a154 c154 h153 k => ⟨_, _, _, rfl, VSome.mk ?_⟩
            refine k.vst (by simp) fun h156 k => ⟨rfl, ?_⟩
            have el2 : (m.ls ++ [(a, r, c), (a132, r + 1, c132), (ga, r + t, gc), nilT]).length = m.ls.length + 4 := by simp
            refine ⟨⟨ba, bc, a154, c154, total, es', m.ls ++ [(a, r, c), (a132, r + 1, c132), (ga, r + t, gc), nilT], bufs', lb4, on2⟩, ⟨?_, ?_, eok', ?_⟩, htt, hlo, by show es'.length = _; omega, el2, ?_⟩
            · show es'.length % 4 = 0
              omega
            · show (m.ls ++ _).length % 4 = 0
              omega
            · intro i e he
              by_cases hi : i < m.ls.length
              · rw [List.getElem?_append_left hi] at he
                exact (lok.cov (cov3.trans cov4)) i e he
              · rw [List.getElem?_append_right (by omega)] at he
                have hi2 := (List.getElem?_eq_some_iff.1 he).1
                have hi2 : i - m.ls.length < 4 := hi2
                have hq : i / 4 = ql := by omega
                have hb : (i / 4, b58) ∈ on2 := by rw [hq, ← hon2]; exact List.mem_cons_self
                have hc : i - m.ls.length = 0 ∨ i - m.ls.length = 1 ∨ i - m.ls.length = 2 ∨ i - m.ls.length = 3 := by omega
                rcases hc with hc | hc | hc | hc <;> rw [hc] at he <;> cases he
                · exact .inr ⟨b58, hb, by rw [hq]; exact onl3.cov cov4⟩
                · exact .inr ⟨b58, hb, by rw [hq]; exact on3.cov cov4⟩
                · exact .inr ⟨b58, hb, by rw [hq]; exact on4⟩
                · exact .inl rfl
            · have k : St F h h156 [A.vec 25 1 a154 (m.ls.length + 4) c154 (m.ls.map trV ++ [.slice a r c, .slice a132 (r + 1) c132, .slice ga (r + t) gc, .slice none 0 0]), A.blk b150 #[.slice a r c, .slice a132 (r + 1) c132, .slice ga (r + t) gc, .slice none 0 0] 25, Bfs 26 fL lb4, Bfs 5 fB bufs', A.vec 26 1 ba es.length bc (es'.map trV), A.blk p #[.slice ba es.length bc, .slice a154 (m.ls.length + 4) c154, .int .i64 total] 66, A.all (on2.map oneA)] := k
              simp only [BookL, el2, List.map_append, hel']
              have k : St F h h156 [A.blk b150 #[.slice a r c, .slice a132 (r + 1) c132, .slice ga (r + t) gc, .slice none 0 0] 25, A.blk p #[.slice ba es.length bc, .slice a154 (m.ls.length + 4) c154, .int .i64 total] 66, A.vec 26 1 ba es.length bc (es'.map trV), A.vec 25 1 a154 (m.ls.length + 4) c154 (m.ls.map trV ++ [(a, r, c), (a132, r + 1, c132), (ga, r + t, gc), nilT].map trV), Bfs 5 fB bufs', Bfs 26 fL lb4, A.all (on2.map oneA)] := k.sel 7 [1, 5, 4, 0, 3, 2, 6] rfl (by decide) (by rfl)
              exact k.drop
end Go.Proofs.YtbaglaoefaoaoaaDoor.F
