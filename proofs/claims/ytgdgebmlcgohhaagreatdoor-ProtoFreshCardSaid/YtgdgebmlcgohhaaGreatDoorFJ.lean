/- What function 9 kept is gone through. Conditions: none. -/
import Derived.Test.YtgdgebmlcgohhaaGreatDoorFI
namespace Go.Proofs.YtgdgebmlcgohhaaGreatDoor.F
open Go Go.VC Go.Proofs
set_option linter.unusedSimpArgs false
set_option linter.unusedVariables false
set_option maxRecDepth 100000
attribute [local irreducible] CallsH RunsTo PureTo

abbrev wqE : El Rq := ⟨Sqa, Sqa.q, 57, 6, fun s => rqV s.q s.na s.nc s.ea s.ec, fun s => A.of fun h => RqRo none_ h s.q s.na s.ea, fun _ => rfl, fun s v hv => by simp at hv; rcases hv with rfl | rfl | rfl | rfl | rfl | rfl <;> rfl, by omega,
  fun F h s => RqRo F h s.q s.na s.ea, fun r m hf => r.at m hf, fun {_ _ _ _ s} k => k.of⟩
abbrev wpE : El Rp := ⟨Spa, Spa.u, 65, 12, fun s => rpV s.u s.ga s.gc s.ha s.hc s.na s.nc s.ra s.rc, fun s => A.of fun h => RpRo none_ h s.u s.ga s.ha s.na s.ra, fun _ => rfl, fun s v hv => by simp at hv; rcases hv with rfl | rfl | rfl | rfl | rfl | rfl | rfl | rfl | rfl | rfl | rfl | rfl <;> rfl, by omega,
  fun F h s => RpRo F h s.u s.ga s.ha s.na s.ra, fun r m hf => r.at m hf, fun {_ _ _ _ s} k => k.of⟩
variable {S F G : Nat → Prop} {h0 h h1 : Heap} {L R L' : List A} {a b0 la wa : Option Addr} {l c l2 c2 p b cl cw g t e sz bt : Nat} {n : Int} {vs news : List Value} {z : Value}
def lsum {α : Type} (xs : List (List α)) : Nat := (xs.map List.length).sum
theorem lsum_next {α : Type} {xs : List (List α)} {j : Nat} {x : List α} (h : xs[j]? = some x) : lsum (xs.take (j + 1)) = lsum (xs.take j) + x.length := by
  unfold lsum
  rw [tnext h, List.map_append, List.sum_append]; simp
theorem lsum_take {α : Type} (xs : List (List α)) (j : Nat) : lsum (xs.take j) ≤ lsum xs := by
  have e : lsum xs = lsum (xs.take j) + lsum (xs.drop j) := by
    unfold lsum
    rw [← List.sum_append, ← List.map_append, List.take_append_drop]
  omega
/-- How long a request's and a reply's lists are. -/
structure QuB (q : Rq) : Prop where
  n : q.names.length ≤ 65536
  ev : q.evs.length ≤ 65536
  vs : ∀ e ∈ q.evs, e.vs.length ≤ 65536
structure UuB (u : Rp) : Prop where
  er : u.errs.length ≤ 65536
  hi : u.hits.length ≤ 65536
  hv : ∀ x ∈ u.hits, x.row.length ≤ 65536
  n : u.names.length ≤ 65536
  ro : u.rows.length ≤ 65536
  rv : ∀ x ∈ u.rows, x.length ≤ 65536
theorem tkB {q : Rq} {u : Rp} (x : QuB q) (y : UuB u) : TkB q u :=
  ⟨by have := x.n; omega, by have := x.ev; omega, fun e he => by have := x.vs e he; omega, by have := y.er; omega, by have := y.hi; omega, fun e he => by have := y.hv e he; omega, by have := y.n; omega, by have := y.ro; omega, fun e he => by have := y.rv e he; omega⟩
theorem rpSz {u : Rp} (y : UuB u) : RpSz u :=
  ⟨by have := y.er; omega, by have := y.hi; omega, by have := y.n; omega, by have := y.ro; omega, fun e he => by have := y.hv e he; omega, fun e he => by have := y.rv e he; omega⟩
abbrev lk0 : Lk := ⟨⟨none, 0, [], []⟩, ⟨none, 0, [], []⟩, ⟨none, 0, [], []⟩, ⟨none, 0, [], []⟩, ⟨none, 0, [], []⟩, ⟨none, 0, [], []⟩, [], [], 0⟩
theorem lk0_ok : LkOk lk0 := ⟨.nil 2, .nil 2, .nil 2, .nil 2, .nil 2, .nil 2, rfl, fun y hy => by simp at hy, rfl, rfl, rfl⟩
abbrev bk0 : Cm := ⟨none, 0, [], []⟩
/-- A new book; new lists. -/
theorem newBook (k : St S h0 h (A.blk b #[.slice none 0 0, .int .i64 0] 35 :: R)) : St S h0 h (BookL b bk0 0 ++ R) := by
  have k := ((k.all0).vnil 36 (sz := 1) (by omega))
  exact k.pull2
theorem newLists (k : St S h0 h (A.blk b #[.slice none 0 0, .slice none 0 0, .slice none 0 0, .slice none 0 0, .slice none 0 0, .slice none 0 0, .int .i64 0] 52 :: R)) : St S h0 h (ListsL b lk0 ++ R) := by
  have k := (((((((k.all0).all0).all0).all0).all0).all0).all0)
  have k := ((((((k.vnil 45 (sz := 1) (by omega)).vnil 61 (sz := 1) (by omega)).vnil 55 (sz := 1) (by omega)).vnil 60 (sz := 1) (by omega)).vnil 54 (sz := 1) (by omega)).vnil 112 (sz := 1) (by omega))
  refine k.perm ?_
  exact (List.perm_middle (l₁ := [_, _, _, _, _, _, _, _, _, _, _, _, _]) (a := A.blk b #[.slice none 0 0, .slice none 0 0, .slice none 0 0, .slice none 0 0, .slice none 0 0, .slice none 0 0, .int .i64 0] 52) (l₂ := R))
abbrev Bk (p : Nat) (m : Cm) (n : Int) : A := A.all (BookL p m n)
abbrev Ls (p : Nat) (m : Lk) : A := A.all (ListsL p m)
variable {ka ww qa qw ua uw : Option Addr} {lk ck cw lq cq dq cu du : Nat} {kss : List (List Bytes)} {qs : List Rq} {us : List Rp}
set_option maxHeartbeats 4000000 in
theorem g9b_spec (k : St none_ h0 h [kpE.L ka lk ck kss, kpE.L ww lk cw kss, askE.L qa lq cq qs, wqE.L qw lq dq qs, tellE.L ua lq cu us, wpE.L uw lq du us]) (hks : ∀ ks ∈ kss, ∀ b ∈ ks, b.length ≤ 1099511627776) (hsum : lsum kss ≤ 549755813888) (hlk : lk ≤ 1099511627776)
    (hq : ∀ q ∈ qs, QuB q) (hu : ∀ u ∈ us, UuB u) (hlq : lq ≤ 1048576) :
    G9b ka lk ck ww lk cw qa lq cq qw lq dq ua lq cu uw lq du h (fun v h' => v = .bool true ∧ Ext h0 h') := by
  unfold G9b
  obtain ⟨sk, hsk, k⟩ := El.open (E := kpE) k
  have hskl : sk.length = lk := by
    have := (St.vec (a := ka) k).1.len
    rw [flatMap_len kpE.len] at this
    exact Nat.eq_of_mul_eq_mul_right kpE.pos this
  have hkl : kss.length = lk := by rw [← hsk, List.length_map, hskl]
  refine k.vnew fun b316 h317 k => ?_
  have k := St.close (L := BookL b316 bk0 0) (newBook k)
  -- [Bk, vec, own, W, Q, WQ, U, WU]
  have k : St none_ h0 h317 [Bk b316 bk0 0, A.vec 24 1 ka lk ck (sk.flatMap kpE.cells), A.all (sk.map kpE.own), kpE.L ww lk cw kss, askE.L qa lq cq qs, wqE.L qw lq dq qs, tellE.L ua lq cu us, wpE.L uw lq du us] := k
  refine ⟨fun mm h' y i => ∃ (j : Nat) (m : Cm) (n : Int), i = j ∧ j ≤ lk ∧ mm = lk - j ∧ y = false ∧ CgOk 3 m ∧ m.es.length ≤ 3 * lsum (kss.take j) ∧
    St none_ h0 h' [Bk b316 m n, A.vec 24 1 ka lk ck (sk.flatMap kpE.cells), A.all ((sk.drop j).map kpE.own), kpE.L ww lk cw kss, askE.L qa lq cq qs, wqE.L qw lq dq qs, tellE.L ua lq cu us, wpE.L uw lq du us], ⟨_, 0, bk0, 0, rfl, Nat.zero_le _, rfl, rfl, .nil 3, Nat.zero_le _, k⟩, ?_⟩
  clear k
  rintro mm h320 _ y i ⟨j, m, n, rfl, hj, rfl, rfl, ok, hml, k⟩
  refine cond_split (fun hc => ?_) (fun hc => ?_)
  · have hjl : j < lk := Int.ofNat_lt.1 (of_decide_eq_true hc)
    obtain ⟨s, hs⟩ : ∃ s, sk[j]? = some s := ⟨_, List.getElem?_eq_getElem (by omega)⟩
    have hkj : kss[j]? = some s.xs := by rw [← hsk, List.getElem?_map, hs]; rfl
    have hsb : ∀ x ∈ s.xs, x.length ≤ 1099511627776 := hks _ (List.mem_of_getElem? hkj)
    have hnx := lsum_next hkj
    have hle := lsum_take kss (j + 1)
    have cell : ∀ {h' : Heap} {K : Addr → Prop}, Sl h' ka (sk.flatMap kpE.cells) → (∀ ad, cellH h' ad = some (.slice s.a s.xs.length s.c) → K ad) → VIdx ka lk (j : Int) 1 K := fun hsl2 q =>
      hsl2.row (f := kpE.cells) (sz := 1) kpE.len (by omega) hskl (by omega) (by omega) fun ad z hz hcz => by
        rw [Int.toNat_natCast, hs] at hz
        cases hz
        exact q ad (hcz 0 _ rfl)
    rw [drop_cons hs] at k
    have k := k.sel 8 [2, 0, 1, 3, 4, 5, 6, 7] rfl (by decide) (L' := [A.all ((s :: sk.drop (j + 1)).map kpE.own), _, _, _, _, _, _, _]) (by rfl)
    have k := k.allOut
    have k : St none_ h0 h320 [bytE.L s.a s.xs.length s.c s.xs, A.all ((sk.drop (j + 1)).map kpE.own), Bk b316 m n, A.vec 24 1 ka lk ck (sk.flatMap kpE.cells), kpE.L ww lk cw kss, askE.L qa lq cq qs, wqE.L qw lq dq qs, tellE.L ua lq cu us, wpE.L uw lq du us] := k
    refine cell (k.sl (a := ka)) fun ad hcd => ⟨_, _, _, hcd, ?_⟩
    have rs := El.ro (E := bytE) k
    have rw_ := El.ro (E := kpE) (k.sel 9 [4, 0, 1, 2, 3, 5, 6, 7, 8] rfl (by decide) (L' := [kpE.L ww lk cw kss, _, _, _, _, _, _, _, _]) (by rfl))
    refine rw_.one (Mod.refl _ _) (by omega) (by omega) fun ad2 z hz hcz hrd => ⟨z.a, z.xs.length, z.c, hcz 0 _ rfl, ?_⟩
    rw [Int.toNat_natCast] at hz
    have hzx : z.xs = s.xs := Option.some.inj (hz.symm.trans hkj)
    have hrd : RoX bytE none_ h320 z.a z.xs.length z.xs := hrd
    have hlen : s.xs.length < 9223372036854775807 := by omega
    refine CallsH.mono (lists_eq rs hrd hlen fun x hx => by have := hsb x hx; omega) ?_
    rintro _ _ ⟨rfl, rfl⟩
    refine ⟨_, rfl, ?_⟩
    rw [hzx, decide_eq_true rfl]
    refine cond_false rfl (cell (k.sl (a := ka)) fun ad3 hc3 => ⟨_, _, _, hc3, ?_⟩)
    have k := St.open (L := BookL b316 m n) (k.sel 9 [2, 0, 1, 3, 4, 5, 6, 7, 8] rfl (by decide) (L' := [Bk b316 m n, bytE.L s.a s.xs.length s.c s.xs, _, _, _, _, _, _, _]) (by rfl))
    obtain ⟨F', G, kF, kG, d, hF, back⟩ := St.frame (L := BookL b316 m n ++ [bytE.L s.a s.xs.length s.c s.xs]) k
    refine CallsH.mono (btake_spec ok kF hsb (Nat.le_refl _) (by omega)) ?_
    rintro _ h335 ⟨rfl, m', n', ok', hml', k2⟩
    have k := St.close (L := BookL b316 m' n') (back (L' := BookL b316 m' n') k2)
    clear back kF kG d hF
    refine ⟨rfl, lk - (j + 1), by omega, j + 1, m', n', wrap_nat hjl (by omega), hjl, rfl, rfl, ok', by omega, ?_⟩
    exact k.sel 8 [0, 2, 1, 3, 4, 5, 6, 7] rfl (by decide) (L' := [_, _, _, _, _, _, _, _]) (by rfl)
  have hjl : j = lk := by
    have : ¬ (j : Int) < lk := of_decide_eq_false hc
    omega
  subst hjl
  clear hc hj
  have hle := lsum_take kss j
  have hml2 : m.es.length < 1152921504606846976 := by omega
  have k := k.sel 8 [4, 6, 5, 7, 0, 1, 2, 3] rfl (by decide) (L' := [askE.L qa lq cq qs, tellE.L ua lq cu us, wqE.L qw lq dq qs, wpE.L uw lq du us, Bk b316 m n, _, _, _]) (by rfl)
  have k : St none_ h0 h320 [askE.L qa lq cq qs, tellE.L ua lq cu us, wqE.L qw lq dq qs, wpE.L uw lq du us, Bk b316 m n] := keep (R := [_, _, _]) k
  have hql := (El.length k).1
  obtain ⟨sq, hsq, k⟩ := El.open (E := askE) k
  have k := k.sel 6 [2, 0, 1, 3, 4, 5] rfl (by decide) (L' := [tellE.L ua lq cu us, _, _, _, _, _]) (by rfl)
  have hul := (El.length k).1
  obtain ⟨su, hsu, k⟩ := El.open (E := tellE) k
  have hsql : sq.length = lq := by rw [← hql, ← hsq, List.length_map]
  have hsul : su.length = lq := by rw [← hul, ← hsu, List.length_map]
  refine k.vnew fun b336 h337 k => ?_
  have k := St.close (L := ListsL b336 lk0) (newLists k)
  have k : St none_ h0 h337 [Ls b336 lk0, A.vec 65 12 ua lq cu (su.flatMap tellE.cells), A.all (su.map tellE.own), A.vec 57 6 qa lq cq (sq.flatMap askE.cells), A.all (sq.map askE.own), wqE.L qw lq dq qs, wpE.L uw lq du us, Bk b316 m n] := k
  refine ⟨fun mm h' y i => ∃ (j : Nat) (w : Lk), i = j ∧ j ≤ lq ∧ mm = lq - j ∧ y = false ∧ LkOk w ∧ LkL w (j * 400000) ∧
    St none_ h0 h' [Ls b336 w, A.vec 65 12 ua lq cu (su.flatMap tellE.cells), A.all ((su.drop j).map tellE.own), A.vec 57 6 qa lq cq (sq.flatMap askE.cells), A.all ((sq.drop j).map askE.own), wqE.L qw lq dq qs, wpE.L uw lq du us, Bk b316 m n], ⟨_, 0, lk0, rfl, Nat.zero_le _, rfl, rfl, lk0_ok, ⟨Nat.zero_le _, Nat.zero_le _, Nat.zero_le _⟩, k⟩, ?_⟩
  clear k
  rintro mm h340 _ y i ⟨i, w, rfl, hi, rfl, rfl, okw, hwl, k⟩
  refine cond_split (fun hc => ?_) (fun hc => ?_)
  · have hil : i < lq := Int.ofNat_lt.1 (of_decide_eq_true hc)
    obtain ⟨s, hs⟩ : ∃ s, sq[i]? = some s := ⟨_, List.getElem?_eq_getElem (by omega)⟩
    obtain ⟨r, hr⟩ : ∃ r, su[i]? = some r := ⟨_, List.getElem?_eq_getElem (by omega)⟩
    have hqi : qs[i]? = some s.q := by rw [← hsq, List.getElem?_map, hs]; rfl
    have hui : us[i]? = some r.u := by rw [← hsu, List.getElem?_map, hr]; rfl
    have bq := hq _ (List.mem_of_getElem? hqi)
    have bu := hu _ (List.mem_of_getElem? hui)
    have cellQ : ∀ {h' : Heap} {K : Addr → Prop}, Sl h' qa (sq.flatMap askE.cells) → (∀ ad, (∀ x v, (rqV s.q s.na s.nc s.ea s.ec)[x]? = some v → cellH h' (addN ad x) = some v) → K ad) → VIdx qa lq (i : Int) 6 K := fun hsl2 q =>
      hsl2.row (f := askE.cells) (sz := 6) askE.len (by omega) hsql (by omega) (by omega) fun ad z hz hcz => by
        rw [Int.toNat_natCast, hs] at hz
        cases hz
        exact q ad hcz
    have cellU : ∀ {h' : Heap} {K : Addr → Prop}, Sl h' ua (su.flatMap tellE.cells) → (∀ ad, (∀ x v, (rpV r.u r.ga r.gc r.ha r.hc r.na r.nc r.ra r.rc)[x]? = some v → cellH h' (addN ad x) = some v) → K ad) → VIdx ua lq (i : Int) 12 K := fun hsl2 q =>
      hsl2.row (f := tellE.cells) (sz := 12) tellE.len (by omega) hsul (by omega) (by omega) fun ad z hz hcz => by
        rw [Int.toNat_natCast, hr] at hz
        cases hz
        exact q ad hcz
    rw [drop_cons hs, drop_cons hr] at k
    have k := (k.sel 8 [2, 0, 1, 3, 4, 5, 6, 7] rfl (by decide) (L' := [A.all ((r :: su.drop (i + 1)).map tellE.own), _, _, _, _, _, _, _]) (by rfl)).allOut
    have k := (k.sel 9 [5, 0, 1, 2, 3, 4, 6, 7, 8] rfl (by decide) (L' := [A.all ((s :: sq.drop (i + 1)).map askE.own), _, _, _, _, _, _, _, _]) (by rfl)).allOut
    have k : St none_ h0 h340 [askE.own s, A.all ((sq.drop (i + 1)).map askE.own), tellE.own r, A.all ((su.drop (i + 1)).map tellE.own), Ls b336 w, A.vec 65 12 ua lq cu (su.flatMap tellE.cells), A.vec 57 6 qa lq cq (sq.flatMap askE.cells), wqE.L qw lq dq qs, wpE.L uw lq du us, Bk b316 m n] := k
    refine cellQ (k.sl (a := qa)) fun ad hcd => ⟨_, hcd 0 _ rfl, _, hcd 1 _ rfl, _, hcd 2 _ rfl, _, hcd 3 _ rfl, _, _, _, hcd 4 _ rfl, _, _, _, hcd 5 _ rfl, ?_⟩
    have rq : RqRo none_ h340 s.q s.na s.ea := askE.rdOwn k
    have rwq := El.ro (E := wqE) (k.sel 10 [7, 0, 1, 2, 3, 4, 5, 6, 8, 9] rfl (by decide) (L' := [wqE.L qw lq dq qs, _, _, _, _, _, _, _, _, _]) (by rfl))
    refine rwq.one (Mod.refl _ _) (by omega) (by omega) fun ad2 z hz hcz hrd => ⟨_, hcz 0 _ rfl, _, hcz 1 _ rfl, _, hcz 2 _ rfl, _, hcz 3 _ rfl, _, _, _, hcz 4 _ rfl, _, _, _, hcz 5 _ rfl, ?_⟩
    rw [Int.toNat_natCast] at hz
    have hzq : z.q = s.q := Option.some.inj (hz.symm.trans hqi)
    have hrd : RqRo none_ h340 z.q z.na z.ea := hrd
    refine CallsH.mono (requests_eq rq hrd (by have := bq.n; omega) (by have := bq.ev; omega) fun x hx => by have := bq.vs x hx; omega) ?_
    rintro _ h360 ⟨rfl, mx⟩
    have k := k.next mx
    refine ⟨_, rfl, ?_⟩
    rw [hzq, decide_eq_true rfl]
    refine cond_false rfl (cellU (k.sl (a := ua)) fun ad3 hc3 => ⟨_, hc3 0 _ rfl, _, hc3 1 _ rfl, _, hc3 2 _ rfl, _, hc3 3 _ rfl, _, _, _, hc3 4 _ rfl, _, _, _, hc3 5 _ rfl, _, _, _, hc3 6 _ rfl, _, _, _, hc3 7 _ rfl, _, hc3 8 _ rfl, _, hc3 9 _ rfl, _, hc3 10 _ rfl, _, hc3 11 _ rfl, ?_⟩)
    have ru : RpRo none_ h360 r.u r.ga r.ha r.na r.ra := tellE.rdOwn (k.sel 10 [2, 0, 1, 3, 4, 5, 6, 7, 8, 9] rfl (by decide) (L' := [tellE.own r, _, _, _, _, _, _, _, _, _]) (by rfl))
    have rwu := El.ro (E := wpE) (k.sel 10 [8, 0, 1, 2, 3, 4, 5, 6, 7, 9] rfl (by decide) (L' := [wpE.L uw lq du us, _, _, _, _, _, _, _, _, _]) (by rfl))
    refine rwu.one (Mod.refl _ _) (by omega) (by omega) fun ad4 y hy hcy hry => ⟨_, hcy 0 _ rfl, _, hcy 1 _ rfl, _, hcy 2 _ rfl, _, hcy 3 _ rfl, _, _, _, hcy 4 _ rfl, _, _, _, hcy 5 _ rfl, _, _, _, hcy 6 _ rfl, _, _, _, hcy 7 _ rfl, _, hcy 8 _ rfl, _, hcy 9 _ rfl, _, hcy 10 _ rfl, _, hcy 11 _ rfl, ?_⟩
    rw [Int.toNat_natCast] at hy
    have hyu : y.u = r.u := Option.some.inj (hy.symm.trans hui)
    have hry : RpRo none_ h360 y.u y.ga y.ha y.na y.ra := hry
    refine CallsH.mono (replies_eq ru hry (rpSz bu)) ?_
    rintro _ h389 ⟨rfl, mx2⟩
    have k := k.next mx2
    refine ⟨_, rfl, ?_⟩
    rw [hyu, decide_eq_true rfl]
    refine cond_false rfl (cellQ (k.sl (a := qa)) fun ad5 hc5 => ⟨_, hc5 0 _ rfl, _, hc5 1 _ rfl, _, hc5 2 _ rfl, _, hc5 3 _ rfl, _, _, _, hc5 4 _ rfl, _, _, _, hc5 5 _ rfl, cellU (k.sl (a := ua)) fun ad6 hc6 => ⟨_, hc6 0 _ rfl, _, hc6 1 _ rfl, _, hc6 2 _ rfl, _, hc6 3 _ rfl, _, _, _, hc6 4 _ rfl, _, _, _, hc6 5 _ rfl, _, _, _, hc6 6 _ rfl, _, _, _, hc6 7 _ rfl, _, hc6 8 _ rfl, _, hc6 9 _ rfl, _, hc6 10 _ rfl, _, hc6 11 _ rfl, ?_⟩⟩)
    have k := k.sel 10 [4, 0, 2, 1, 3, 5, 6, 7, 8, 9] rfl (by decide) (L' := [Ls b336 w, askE.own s, tellE.own r, A.all ((sq.drop (i + 1)).map askE.own), A.all ((su.drop (i + 1)).map tellE.own), A.vec 65 12 ua lq cu (su.flatMap tellE.cells), A.vec 57 6 qa lq cq (sq.flatMap askE.cells), wqE.L qw lq dq qs, wpE.L uw lq du us, Bk b316 m n]) (by rfl)
    have k := k.pull2
    have k := St.open (L := [errE.L r.ga r.u.errs.length r.gc r.u.errs, hitE.L r.ha r.u.hits.length r.hc r.u.hits, texE.L r.na r.u.names.length r.nc r.u.names, rowE.L r.ra r.u.rows.length r.rc r.u.rows]) k
    have k := k.pull5
    have k := St.open (L := [texE.L s.na s.q.names.length s.nc s.q.names, evE.L s.ea s.q.evs.length s.ec s.q.evs]) k
    have k := St.open (L := ListsL b336 w) k.pull6
    obtain ⟨F', G, kF, kG, d, hF, back⟩ := St.frame (L := ListsL b336 w ++ TkL s.q r.u s.na s.nc s.ea s.ec r.ga r.gc r.ha r.hc r.na r.nc r.ra r.rc) k
    have b1 := bq.ev
    have b2 := bu.hi
    have b3 := bu.ro
    obtain ⟨y0, hy0⟩ : ∃ y, y = i * 400000 := ⟨_, rfl⟩
    have b4 : y0 ≤ 419430400000 := by omega
    have b5 : (i + 1) * 400000 = y0 + 400000 := by omega
    rw [← hy0] at hwl
    have b6 : y0 + 2 * (s.q.evs.length + r.u.hits.length + r.u.rows.length) + 4 ≤ 4398046511104 := by
      clear hy0 b5
      omega
    refine CallsH.mono (take_spec okw kF (tkB bq bu) hwl b6) ?_
    rintro _ h412 ⟨rfl, w', okw', hwl', k2⟩
    have k := St.close (L := ListsL b336 w') (back (L' := ListsL b336 w') k2)
    clear back kF kG d hF
    refine ⟨rfl, lq - (i + 1), by omega, i + 1, w', wrap_nat hil (by omega), hil, rfl, rfl, okw', ⟨by have := hwl'.x0; omega, by have := hwl'.x1; omega, by have := hwl'.x2; omega⟩, ?_⟩
    exact k.sel 8 [0, 3, 2, 4, 1, 5, 6, 7] rfl (by decide) (L' := [_, _, _, _, _, _, _, _]) (by rfl)
  have hil : i = lq := by
    have : ¬ (i : Int) < lq := of_decide_eq_false hc
    omega
  subst hil
  have b4 : i * 400000 ≤ 1048576 * 400000 := by omega
  have k := (keep (L := [Ls b336 w, Bk b316 m n]) (R := [_, _, _, _, _, _]) (k.sel 8 [0, 7, 1, 2, 3, 4, 5, 6] rfl (by decide) (L' := [Ls b336 w, Bk b316 m n, _, _, _, _, _, _]) (by rfl)))
  have kb : St none_ h0 h340 [A.blk b316 #[hdV m, .int .i64 n] 35, hdA 36 m, BfK KdB m.bufs, Ls b336 w] := St.open (L := BookL b316 m n) k.pull1
  have cr : ColR KdB 3 h340 m := ok.r (e := 36) kb.pull1 (kb.pull2) hml2
  refine CallsH.mono (bwhole_spec cr (kb.rd (by rfl))) ?_
  rintro _ _ ⟨rfl, rfl⟩
  refine ⟨_, rfl, cond_true rfl ?_⟩
  have kl := St.open (L := ListsL b336 w) k
  refine CallsH.mono (lwhole_spec (okw.r kl hwl (by omega))) ?_
  rintro _ h417 ⟨rfl, mx⟩
  exact ⟨_, rfl, rfl, (k.next mx).ext⟩
end Go.Proofs.YtgdgebmlcgohhaaGreatDoor.F
