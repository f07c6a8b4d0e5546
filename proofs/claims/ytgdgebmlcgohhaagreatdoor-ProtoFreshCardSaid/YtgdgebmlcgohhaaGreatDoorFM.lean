/- Function 9: two streams fed alike; all is what it was. Conditions: none. -/
import Derived.Test.YtgdgebmlcgohhaaGreatDoorFL
namespace Go.Proofs.YtgdgebmlcgohhaaGreatDoor.F
open Go Go.VC Go.Proofs
set_option linter.unusedSimpArgs false
set_option linter.unusedVariables false
set_option maxRecDepth 100000
attribute [local irreducible] CallsH RunsTo PureTo

variable {S F G : Nat → Prop} {h0 h h1 : Heap} {L R L' : List A} {a b0 la wa b : Option Addr} {l c l2 c2 p cl cw g t e sz bt lr cr : Nat} {n : Int} {vs news : List Value} {z : Value} {q : Rq} {u : Rp} {v : Val} {bs : Bytes} {xs raws : List Bytes}
theorem ap2 {P : Program} (T : SlTy P t e sz bt z) {bb : Nat} (k : St S h0 h (A.blk bb news.toArray e :: A.vec e sz a l c vs :: R)) (hn : news.length = 2 * sz) (hone : ∀ v ∈ news, oneC v = true) (hb : (l + 2) * bt ≤ 140737488355328) {K : KV}
    (q : ∀ a' c' h', St S h0 h' (A.vec e sz a' (l + 2) c' (vs ++ news) :: R) → K (.slice a' (l + 2) c') h') : RunsTo P (Builtin.append_ #[t, t] t #[.slice a l c, .slice (some ⟨bb, 0, none⟩) 2 2]) h K := by
  have hsl : Sl h (some ⟨bb, 0, none⟩) news := k.slB (b := bb)
  refine k.pull1.app T T.ut (by simp) (Src.slice hsl hn) hone hb fun a' c' h' k => q a' c' h' k.pull1.drop
theorem RoX.cut {α : Type} {E : El α} {xs : List α} {k : Nat} (r : RoX E F h a l xs) (hk : k ≤ l) : RoX E F h a k (xs.take k) := by
  obtain ⟨ss, q1, q2, q3, q4⟩ := r
  refine ⟨ss.take k, ?_, fun s hs => q2 s (List.mem_of_mem_take hs), by rw [List.map_take, q3], by rw [List.length_take]; omega⟩
  have e : ss.flatMap E.cells = (ss.take k).flatMap E.cells ++ (ss.drop k).flatMap E.cells := by rw [← List.flatMap_append, List.take_append_drop]
  rw [e] at q1
  exact q1.pre
theorem Kb.two {kss : List (List Bytes)} {lk B : Nat} {ls : List Bytes} (k : Kb kss lk B) (hb : ∀ b ∈ ls, b.length ≤ 1099511627776) : Kb (kss ++ [ls, ls]) (lk + 2) (B + 2 * ls.length + 2) := by
  refine ⟨fun ks hks b hb2 => ?_, ?_, by have := k.l; omega⟩
  · rcases List.mem_append.1 hks with h1 | h1
    · exact k.b ks h1 b hb2
    · have : ks = ls := by simpa using h1
      rw [this] at hb2
      exact hb b hb2
  · have := k.s
    have e : lsum (kss ++ [ls, ls]) = lsum kss + (ls.length + (ls.length + 0)) := by unfold lsum; rw [List.map_append, List.sum_append]; rfl
    omega
set_option maxHeartbeats 4000000 in
theorem unwritten_spec (hw : Wd none_ h) (hs : Spk none_ h) (rp : RoX bytE none_ h a l xs) (hsp : 16 * l + lensum xs ≤ 4194304) (rr : RoX bytC none_ h b lr raws) (hsr : 16 * lr + lensum raws ≤ 4194304) :
    CallsH Tryz.prog 9 #[.slice a l c, .slice b lr cr] h (fun v h' => v = .bool true ∧ Ext h h') := by
  refine vf9 _ _ _ _ _ _ h _ ?_
  unfold F9
  refine CallsH.mono new_spec ?_
  rintro _ h2 ⟨p1, rfl, k⟩
  refine ⟨_, rfl, ?_⟩
  refine CallsH.mono new_spec ?_
  rintro _ h5 ⟨p2, rfl, kd⟩
  have k := k.add1 kd
  refine ⟨_, rfl, cond_false rfl (cond_false rfl ?_)⟩
  have k : St none_ h h5 [kpE.L none 0 0 [], kpE.L none 0 0 [], ST p1 [] false, ST p2 [] false] := (El.nil kpE (El.nil kpE k.pull1))
  refine ⟨fun mm h' a1 l1 c1 a2 l2 c2 tt i => ∃ (j : Nat) (kss : List (List Bytes)) (w : Bytes) (sp : Bool) (cnt : Nat), i = j ∧ j ≤ l ∧ mm = l - j ∧ l2 = l1 ∧ Kb kss l1 (2 * cnt + 2 * j) ∧ 8 * cnt + w.length ≤ lensum (xs.take j) ∧
    St none_ h h' [kpE.L a1 l1 c1 kss, kpE.L a2 l1 c2 kss, ST p1 w sp, ST p2 w sp], ⟨_, 0, [], [], false, 0, rfl, Nat.zero_le _, rfl, rfl, ⟨(fun ks hks => by cases hks), Nat.zero_le _, Nat.zero_le _⟩, Nat.zero_le _, k⟩, ?_⟩
  clear k
  rintro mm h9 _ a1 _ c1 a2 l1 c2 tt i ⟨j, kss, w, sp, cnt, rfl, hj, rfl, rfl, kb, hcw, k⟩
  have hle : lensum (xs.take j) ≤ lensum xs := lsum_take xs j
  have fin : G9a b lr cr a1 l1 c1 a2 l1 c2 tt h9 (fun v h' => v = .bool true ∧ Ext h h') :=
    g9a_spec hw hs rr (fun x hx => by have := lensum_mem hx; omega) (by omega) (B := 2 * cnt + 2 * j) (by omega) kb (keep (L := [kpE.L a1 l1 c1 kss, kpE.L a2 l1 c2 kss]) (R := [_, _]) k)
  refine cond_split (fun hc => ?_) (fun hc => fin)
  refine cond_split (fun hc2 => ?_) (fun hc2 => fin)
  clear fin hc2
  have hjl : j < l := Int.ofNat_lt.1 (of_decide_eq_true hc)
  obtain ⟨bs, hbs⟩ : ∃ bs, xs[j]? = some bs := ⟨_, List.getElem?_eq_getElem (by have := rp.len; omega)⟩
  have hbl := lensum_mem (List.mem_of_getElem? hbs)
  have hnx := lensum_next hbs
  have hle1 : lensum (xs.take (j + 1)) ≤ lensum xs := lsum_take xs (j + 1)
  have piece : ∀ {h' : Heap} {K : Addr → Prop}, Ext h h' → (∀ ad (x : Option Addr) (cx : Nat), cellH h' ad = some (.slice x bs.length cx) → Ro none_ h x (bytesV bs) → K ad) → VIdx a l (j : Int) 1 K := fun m q =>
    rp.one m (by omega) (by omega) fun ad z hz hcz hrd => by
      rw [Int.toNat_natCast, hbs] at hz
      have hz : bs = z.bs := Option.some.inj hz
      have hrd : Ro none_ h z.a (bytesV z.bs) := hrd
      exact q ad z.a z.c (by rw [hz]; exact hcz 0 _ rfl) (by rw [hz]; exact hrd)
  refine piece k.ext fun ad x cx hcd hro => ⟨_, _, _, hcd, ?_⟩
  have k := k.sel 4 [2, 3, 0, 1] rfl (by decide) (L' := [ST p1 w sp, ST p2 w sp, kpE.L a1 l1 c1 kss, kpE.L a2 l1 c2 kss]) (by rfl)
  have hsum := feed_sum w sp bs
  obtain ⟨F', G, kF, kG, d, hF, back⟩ := k.frame2
  refine CallsH.mono (feed_spec kF (hro.at k.ext hF) rfl (by omega)) ?_
  rintro _ h19 ⟨x1, cx1, rfl, k2⟩
  have k := back k2
  clear back kF kG d hF
  refine ⟨_, _, _, _, rfl, piece k.ext fun ad2 x2 cx2 hcd2 hro2 => ⟨_, _, _, hcd2, ?_⟩⟩
  obtain ⟨F', G, kF, kG, d, hF, back⟩ := k.pull2.frame2
  refine CallsH.mono (feed_spec kF (hro2.at k.ext hF) rfl (by omega)) ?_
  rintro _ h25 ⟨x2', cx2', rfl, k2⟩
  have k := back k2
  clear back kF kG d hF
  -- [ST2, m, ST1, l, K, W]
  generalize (feedR w sp bs).1 = ls at *
  generalize (feedR w sp bs).2.1 = er at *
  generalize (feedR w sp bs).2.2.1 = w' at *
  generalize (feedR w sp bs).2.2.2 = sp' at *
  have hls : ∀ b ∈ ls, b.length ≤ 1099511627776 := fun b hb => by have := lensum_mem hb; omega
  have k := k.sel 6 [3, 1, 2, 0, 4, 5] rfl (by decide) (L' := [bytE.L x1 ls.length cx1 ls, bytE.L x2' ls.length cx2' ls, ST p1 w' sp', ST p2 w' sp', kpE.L a1 l1 c1 kss, kpE.L a2 l1 c2 kss]) (by rfl)
  refine ⟨_, _, _, _, rfl, piece k.ext fun ad3 x3 cx3 hcd3 hro3 => ⟨_, _, _, hcd3, ?_⟩⟩
  refine ⟨fun m2 h' tt2 y => ∃ r : Nat, y = r ∧ r ≤ ls.length ∧ m2 = ls.length - r ∧ h' = h25, ⟨_, 0, rfl, Nat.zero_le _, rfl, rfl⟩, ?_⟩
  rintro m2 _ _ tt2 y ⟨r, rfl, hr, rfl, rfl⟩
  refine cond_split (fun hc => ?_) (fun hc => ?_)
  · have hrl : r < ls.length := Int.ofNat_lt.1 (of_decide_eq_true hc)
    exact (El.ro (E := bytE) k).one (Mod.refl _ _) (by omega) (by omega) fun ad4 z hz hcz hrd => ⟨_, _, _, hcz 0 _ rfl, ls.length - (r + 1), by omega, r + 1, wrap_nat hrl (by omega), hrl, rfl, rfl⟩
  clear hc
  have hl1 := kb.l
  refine k.vnew fun b39 h40 k => ?_
  obtain ⟨sk, hsk, k⟩ := El.open (E := kpE) k.pull5
  -- [vecK, allK, b39, l, m, ST1, ST2, W]
  have k : St none_ h h40 [A.blk b39 [Value.slice x1 ls.length cx1, .slice x2' ls.length cx2'].toArray 24, A.vec 24 1 a1 l1 c1 (sk.flatMap kpE.cells), A.all (sk.map kpE.own), bytE.L x1 ls.length cx1 ls, bytE.L x2' ls.length cx2' ls, ST p1 w' sp', ST p2 w' sp', kpE.L a2 l1 c2 kss] := k.pull2
  refine ap2 T84 k rfl (fun v hv => by simp at hv; rcases hv with rfl | rfl <;> rfl) (by omega) fun a1' c1' h42 k => ⟨_, _, _, rfl, ?_⟩
  have r1 := El.ro (E := bytE) k.pull2
  refine CallsH.mono (over_spec r1 hls (by omega)) ?_
  rintro _ h45 ⟨y1, cy1, rfl, kd⟩
  have k := k.add1 kd
  refine ⟨_, _, _, rfl, ?_⟩
  have r2 := El.ro (E := bytE) k.pull4
  refine CallsH.mono (over_spec r2 hls (by omega)) ?_
  rintro _ h48 ⟨y2, cy2, rfl, kd⟩
  have k := k.add1 kd
  refine ⟨_, _, _, rfl, k.vnew fun b50 h51 k => ?_⟩
  -- [b50, y2, y1, vecK', allK, l, m, ST1, ST2, W]
  obtain ⟨sw, hsw, k⟩ := El.open (E := kpE) k.pull9
  -- [vecW, allW, b50, y2, y1, vecK', allK, l, m, ST1, ST2]
  have k : St none_ h h51 [A.blk b50 [Value.slice y1 ls.length cy1, .slice y2 ls.length cy2].toArray 24, A.vec 24 1 a2 l1 c2 (sw.flatMap kpE.cells), A.all (sw.map kpE.own), bytE.L y2 ls.length cy2 ls, bytE.L y1 ls.length cy1 ls, A.vec 24 1 a1' (l1 + 2) c1' (sk.flatMap kpE.cells ++ [.slice x1 ls.length cx1, .slice x2' ls.length cx2']), A.all (sk.map kpE.own), bytE.L x1 ls.length cx1 ls, bytE.L x2' ls.length cx2' ls, ST p1 w' sp', ST p2 w' sp'] := k.pull2
  refine ap2 T84 k rfl (fun v hv => by simp at hv; rcases hv with rfl | rfl <;> rfl) (by omega) fun a2' c2' h53 k => ⟨_, _, _, rfl, ?_⟩
  refine ⟨l - (j + 1), by omega, j + 1, kss ++ [ls, ls], w', sp', cnt + ls.length, wrap_nat hjl (by omega), hjl, rfl, rfl, (kb.two hls).more (by omega), by omega, ?_⟩
  -- [vecW', allW, y2, y1, vecK', allK, l, m, ST1, ST2]
  have k := (k.sel 10 [2, 3, 0, 1, 4, 5, 6, 7, 8, 9] rfl (by decide) (L' := [bytE.L y2 ls.length cy2 ls, bytE.L y1 ls.length cy1 ls, _, _, _, _, _, _, _, _]) (by rfl))
  have k := (((k.all0).pull1.allIn).pull1.allIn)
  have k : St none_ h h53 (A.vec 24 1 a2' (l1 + 2) c2' (sw.flatMap kpE.cells ++ ([⟨y1, cy1, ls⟩, ⟨y2, cy2, ls⟩] : List Sk).flatMap kpE.cells) :: A.all (sw.map kpE.own) :: A.all (([⟨y1, cy1, ls⟩, ⟨y2, cy2, ls⟩] : List Sk).map kpE.own) :: [A.vec 24 1 a1' (l1 + 2) c1' (sk.flatMap kpE.cells ++ [.slice x1 ls.length cx1, .slice x2' ls.length cx2']), A.all (sk.map kpE.own), bytE.L x1 ls.length cx1 ls, bytE.L x2' ls.length cx2' ls, ST p1 w' sp', ST p2 w' sp']) :=
    k.sel 9 [1, 2, 0, 3, 4, 5, 6, 7, 8] rfl (by decide) (by rfl)
  have k := El.grown (E := kpE) (new := [⟨y1, cy1, ls⟩, ⟨y2, cy2, ls⟩]) hsw k
  have k := (k.sel 7 [4, 3, 0, 1, 2, 5, 6] rfl (by decide) (L' := [bytE.L x2' ls.length cx2' ls, bytE.L x1 ls.length cx1 ls, _, _, _, _, _]) (by rfl))
  have k := (((k.all0).pull1.allIn).pull1.allIn)
  have k : St none_ h h53 (A.vec 24 1 a1' (l1 + 2) c1' (sk.flatMap kpE.cells ++ ([⟨x1, cx1, ls⟩, ⟨x2', cx2', ls⟩] : List Sk).flatMap kpE.cells) :: A.all (sk.map kpE.own) :: A.all (([⟨x1, cx1, ls⟩, ⟨x2', cx2', ls⟩] : List Sk).map kpE.own) :: [kpE.L a2' (l1 + 2) c2' (kss ++ [ls, ls]), ST p1 w' sp', ST p2 w' sp']) :=
    k.sel 6 [2, 3, 0, 1, 4, 5] rfl (by decide) (by rfl)
  exact El.grown (E := kpE) (new := [⟨x1, cx1, ls⟩, ⟨x2', cx2', ls⟩]) hsk k
end Go.Proofs.YtgdgebmlcgohhaaGreatDoor.F
