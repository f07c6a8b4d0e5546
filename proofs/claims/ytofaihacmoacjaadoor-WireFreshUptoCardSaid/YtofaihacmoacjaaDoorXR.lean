/- The laws of the wire: answers are fresh. Conditions: none. -/
import Derived.Test.YtofaihacmoacjaaDoorXQ
import Derived.Test.YtofaihacmoacjaaDoorWE
/-! ## The laws of the wire: answers that nobody writes into stay. -/
namespace Go.Proofs.YtofaihacmoacjaaDoor.F
open Go Go.VC Go.Proofs
set_option linter.unusedSimpArgs false
set_option linter.unusedVariables false
set_option maxRecDepth 100000
attribute [local irreducible] CallsH RunsTo PureTo

variable {S F G : Nat → Prop} {h0 h h1 : Heap} {L R L' : List A} {a a1 b b0 la wa ia ra : Option Addr} {l l1 c1 c l2 c2 p cl cw q rc : Nat} {bs cs : List UInt8} {bss : List (List UInt8)} {es : List Ev}
theorem hlf {j : Nat} (h : j < 4611686018427387904) : IntKind.i64.wrap (Int.tdiv (j : Int) 2) = ((j / 2 : Nat) : Int) := by
  have e2 : Int.tdiv (j : Int) 2 = ((j / 2 : Nat) : Int) := rfl
  rw [e2, wrap_id (by omega) (by omega)]
theorem dbl {n : Nat} (h : n < 2305843009213693952) : IntKind.i64.wrap (2 * (n : Int)) = ((2 * n : Nat) : Int) := by
  rw [wrap_id (by omega) (by omega)]; omega
theorem tot_app (x y : List (List UInt8)) : tot (x ++ y) = tot x + tot y := by
  unfold tot; rw [List.map_append, List.sum_append]
theorem tot_next {j : Nat} {x : List UInt8} (h : bss[j]? = some x) : tot (bss.take (j + 1)) = tot (bss.take j) + (x.length + 1) := by
  rw [take_next h, tot_app]; rfl
theorem tot_take (j : Nat) : tot (bss.take j) ≤ tot bss := by
  have e := tot_app (bss.take j) (bss.drop j)
  rw [List.take_append_drop] at e; omega
theorem KpOk.up {m : Kp} (k : KpOk m q) {q2 : Nat} (h : q ≤ q2) : KpOk m q2 := ⟨k.bs, k.es, k.bl, k.el, Nat.le_trans k.q h⟩
/-- Rows that others hold, and one that is held. -/
theorem all_rol {n cn yc : Nat} {ya an : Option Addr} {y : List UInt8} {xs : List Sg} (r2 : ∀ x ∈ xs, Ro none_ h0 x.a (bytesV x.bs) ∧ x.bs.length = x.l ∧ x.l ≤ x.c)
    (k : St none_ h0 h (A.vec 30 1 an n cn ((xs ++ [(⟨ya, y.length, yc, y⟩ : Sg)]).map sgV) :: BV ya y.length yc y :: R)) : RoL none_ h an n (xs.map Sg.bs ++ [y]) := by
  have hn := (k.vec (a := an)).1.len
  have hy := (k.drop.vec (a := ya)).1.le
  refine ⟨xs ++ [(⟨ya, y.length, yc, y⟩ : Sg)], (k.sl (a := an)).ro, fun x hx => ?_, by rw [List.map_append]; rfl, ?_⟩
  · rcases List.mem_append.1 hx with h1 | h1
    · obtain ⟨q1, q2, q3⟩ := r2 x h1
      exact ⟨q1.in k, q2, q3⟩
    · rw [List.mem_singleton.1 h1]
      exact ⟨(k.drop.sl (a := ya)).ro, rfl, hy⟩
  · rw [List.length_map] at hn
    simp only [List.length_append, List.length_map, List.length_singleton] at hn ⊢
    omega
/-- The rows of a list, and one behind them, in a list of their own. -/
theorem copy_rows {xs : List Sg} {x : Option Addr} {cx : Nat} (k : St S h0 h R) (hs : Sl h x (xs.map sgV)) (hb : xs.length ≤ 1099511627776) {K : KV}
    (q : ∀ a' c' h', St S h0 h' (A.vec 30 1 a' xs.length c' (xs.map sgV) :: R) → K (.slice a' xs.length c') h') : RunsTo Tryd.prog (Builtin.append_ #[23, 23] 23 #[.slice none 0 0, .slice x xs.length cx]) h K := by
  have k : St S h0 h (A.vec 30 1 none 0 0 [] :: R) := k.vnil 30 (sz := 1) (by omega)
  have := k.app T23 und23 (by simp) (n := xs.length) (Src.slice (c := cx) hs (by rw [List.length_map, Nat.mul_one])) (fun w hw => by
    obtain ⟨x, _, rfl⟩ := List.mem_map.1 hw
    rfl) (by omega) (K := K) (ty := 23) fun a' c' h' k => by
    rw [Nat.zero_add] at k ⊢
    exact q a' c' h' k
  exact this
theorem add_row {xs : List Sg} {a c bb ya yc yl : Nat} {aa : Option Addr} {yb : Option Addr} {y : List UInt8} (k : St S h0 h (A.blk bb #[.slice yb yl yc] 30 :: A.vec 30 1 aa xs.length c (xs.map sgV) :: R)) (hb : xs.length ≤ 1099511627776) {K : KV}
    (q : ∀ a' c' h', St S h0 h' (A.vec 30 1 a' (xs.length + 1) c' ((xs ++ [(⟨yb, yl, yc, y⟩ : Sg)]).map sgV) :: R) → K (.slice a' (xs.length + 1) c') h') : RunsTo Tryd.prog (Builtin.append_ #[23, 23] 23 #[.slice aa xs.length c, .slice (some ⟨bb, 0, none⟩) 1 1]) h K := by
  have hs : Sl h (some ⟨bb, 0, none⟩) [.slice yb yl yc] := k.slB (b := bb)
  refine k.pull1.app T23 und23 (by simp) (Src.slice hs rfl) (by simp [oneC]) (by omega) fun a' c' h' k => q a' c' h' ?_
  have e : (xs ++ [(⟨yb, yl, yc, y⟩ : Sg)]).map sgV = xs.map sgV ++ [.slice yb yl yc] := by rw [List.map_append]; rfl
  rw [e]
  exact k.pull1.drop
theorem untouched_spec {ns : List Int} (hw : Wd none_ h) (he : RoE none_ h a l es) (hn : Sl h a1 (ns.map i64V)) (hnl : ns.length = l1) (hnr : ∀ n ∈ ns, -9223372036854775808 ≤ n ∧ n < 9223372036854775808) (hr : RoL none_ h b l2 bss)
    (hb : l ≤ 137438953472) (hb2 : ∀ e ∈ es, e.vs.length ≤ 137438953472) (hb1 : l1 ≤ 137438953472) (hb3 : tot bss ≤ 137438953472) :
    CallsH Tryd.prog 37 #[.slice a l c, .slice a1 l1 c1, .slice b l2 c2] h (fun v h' => v = .bool true ∧ Ext h h') := by
  refine vf37 _ _ _ _ _ _ _ _ _ h _ ?_
  unfold F37
  have hl : es.length = l := by obtain ⟨_, _, _, _, e⟩ := he; exact e
  obtain ⟨xs0, r1, r2, r3, r4⟩ := hr
  have hl2 : xs0.length = l2 := by rw [← r4, ← r3, List.length_map]
  have htl := tot_len bss
  have hlim := packR_len es
  refine (St.fresh h).vnew fun b1 h2 k => ?_
  have k : St none_ h h2 (KeptL b1 kp0 ++ []) := kp0_st k
  rw [dbl (by omega)]
  refine ⟨fun n hh i => ∃ (j : Nat) (m : Kp), i = j ∧ j ≤ 2 * l1 ∧ n = 2 * l1 - j ∧ KpOk m (2 * j) ∧ St none_ h hh (KeptL b1 m ++ []), ⟨_, 0, kp0, rfl, by omega, rfl, kp0_ok, k⟩, ?_⟩
  clear k
  rintro n h5 _ i ⟨j, m, rfl, hj, rfl, ok, k⟩
  refine cond_split (fun hc => ?_) (fun hc => ?_)
  · have hjl : j < 2 * l1 := Int.ofNat_lt.1 (of_decide_eq_true hc)
    refine ⟨by omega, ?_⟩
    rw [hlf (by omega)]
    refine (hn.ext k.ext).one (f := i64V) hnl (by omega) (by omega) fun ad x hx hcx => ⟨_, hcx, ?_⟩
    have hxr := hnr x (List.mem_of_getElem? hx)
    refine CallsH.mono (PutInt_spec hxr.1 hxr.2) ?_
    rintro _ h12 ⟨a13, c13, rfl, k2⟩
    have k := k.add1 k2
    have hpl := (putN_len x).2
    refine ⟨_, _, _, rfl, CallsH.mono (kbytes_call ok k (by omega) (by omega)) ?_⟩
    rintro _ h15 ⟨rfl, m', ok', k'⟩
    exact ⟨rfl, 2 * l1 - (j + 1), by omega, j + 1, m', wrap_nat hjl (by omega), hjl, rfl, ok', k'⟩
  have ok := ok.up (q2 := 4 * l1) (by omega)
  clear hc hj
  refine CallsH.mono (given_own (he.ext k.ext) hb hb2) ?_
  rintro _ h17 ⟨ia, ra, rc, xs, rfl, hxe, hxr, kg⟩
  have k : St none_ h h17 (KeptL b1 m ++ (GivL ia ra l rc xs ++ [])) := (k.add kg).perm (List.perm_append_comm (l₁ := GivL ia ra l rc xs) (l₂ := KeptL b1 m ++ []))
  have hxl : xs.length = l := by rw [← hl, ← hxe, List.length_map]
  have giv : ∀ {hh : Heap} {m : Kp} {R : List A}, St none_ h hh (KeptL b1 m ++ (GivL ia ra l rc xs ++ R)) → Given hh ia ra es := fun {hh m R} k => GivL.given (St.dropL (L := KeptL b1 m) (R := GivL ia ra l rc xs ++ R) k) hxe hxr
  have givro : ∀ {hh : Heap} {m : Kp} {R : List A}, St none_ h hh (KeptL b1 m ++ (GivL ia ra l rc xs ++ R)) → RoE none_ hh ia l es := fun {hh m R} k => by
    have := (giv k).ro
    rwa [hl] at this
  refine ⟨_, _, _, _, _, _, rfl, ?_⟩
  rw [dbl (by omega)]
  refine ⟨fun n hh i => ∃ (j : Nat) (m : Kp), i = j ∧ j ≤ 2 * l ∧ n = 2 * l - j ∧ KpOk m (4 * l1 + 2 * j) ∧ St none_ h hh (KeptL b1 m ++ (GivL ia ra l rc xs ++ [])), ⟨_, 0, m, rfl, by omega, rfl, ok, k⟩, ?_⟩
  clear k ok
  rintro n h22 _ i ⟨j, m, rfl, hj, rfl, ok, k⟩
  refine cond_split (fun hc => ?_) (fun hc => ?_)
  · have hjl : j < 2 * l := Int.ofNat_lt.1 (of_decide_eq_true hc)
    refine ⟨by omega, ?_⟩
    rw [hlf (by omega)]
    have k3 : St none_ h h22 (A.vec 27 3 ia (l + 34) (l + 34) ((xs ++ tailSe 34).flatMap seV) :: A.vec 25 1 ra l rc (xs.map rmV) :: A.all (xs.map VRm) :: []) := St.dropL (L := KeptL b1 m) (R := GivL ia ra l rc xs ++ []) k
    refine Sl.row (f := seV) seV_len (k3.sl (a := ia)) (by omega) (by rw [List.length_append, hxl, tailSe_len]) (by omega) (by omega) fun ad x hx hcx => ?_
    rw [Int.toNat_natCast, List.getElem?_append_left (by omega)] at hx
    have hxm := List.mem_of_getElem? hx
    have d0 : cellH h22 ad = some (.string (bA x.e.t)) := hcx 0 _ rfl
    have d1 : cellH h22 ⟨ad.block, ad.off + 1, none⟩ = some (.int .i64 x.e.tm) := hcx 1 _ rfl
    have d2 : cellH h22 ⟨ad.block, ad.off + 2, none⟩ = some (.slice x.a x.e.vs.length x.c) := hcx 2 _ rfl
    have hvx := hb2 x.e (by rw [← hxe]; exact List.mem_map_of_mem hxm)
    refine ⟨_, d0, _, d1, _, _, _, d2, CallsH.mono (encode_spec (hw.sl.ext k.ext).ro ⟨(roomV_pre (all_room k3.drop.drop hxm)).ro, rfl, hxr x hxm⟩ (by omega)) ?_⟩
    rintro _ h31 ⟨a32, c32, rfl, k2⟩
    have k := k.add1 k2
    have hel : (encF x.e).length ≤ 5000 := by
      unfold encF
      split
      · rename_i h; exact encE_len h
      · exact Nat.zero_le _
    refine ⟨_, _, _, _, rfl, CallsH.mono (kbytes_call ok k (by omega) (by omega)) ?_⟩
    rintro _ h35 ⟨rfl, m', ok', k'⟩
    exact ⟨rfl, 2 * l - (j + 1), by omega, j + 1, m', wrap_nat hjl (by omega), hjl, rfl, ok', k'⟩
  have ok := ok.up (q2 := 4 * l1 + 4 * l) (by omega)
  clear hc hj
  refine ⟨fun n hh i => ∃ (j : Nat) (m : Kp), i = j ∧ j ≤ 2 ∧ n = 2 - j ∧ KpOk m (4 * l1 + 4 * l + 2 * j) ∧ St none_ h hh (KeptL b1 m ++ (GivL ia ra l rc xs ++ [])), ⟨_, 0, m, rfl, by omega, rfl, ok, k⟩, ?_⟩
  clear k ok
  rintro n h38 _ i ⟨j, m, rfl, hj, rfl, ok, k⟩
  refine cond_split (fun hc => ?_) (fun hc => ?_)
  · have hjl : j < 2 := Int.ofNat_lt.1 (of_decide_eq_true hc)
    refine whole_cut (lo := 0) (by omega) (CallsH.mono (pack_spec (hw.sl.ext k.ext).ro (givro k) (fun e he => by have := hb2 e he; omega)) ?_)
    rintro _ h44 ⟨a45, c45, rfl, k2⟩
    have k := k.add1 k2
    refine ⟨_, _, _, _, rfl, CallsH.mono (kbytes_call ok k (by omega) (by omega)) ?_⟩
    rintro _ h48 ⟨rfl, m', ok', k'⟩
    exact ⟨rfl, 2 - (j + 1), by omega, j + 1, m', wrap_nat hjl (by omega), hjl, rfl, ok', k'⟩
  have ok := ok.up (q2 := 4 * l1 + 4 * l + 4) (by omega)
  clear hc hj
  refine whole_cut (lo := 0) (by omega) (CallsH.mono (pack_spec (hw.sl.ext k.ext).ro (givro k) (fun e he => by have := hb2 e he; omega)) ?_)
  rintro _ h51 ⟨a52, c52, rfl, k2⟩
  have k := k.add1 k2
  refine ⟨_, _, _, _, rfl, ?_⟩
  have hs0 := (r1.in k).sl
  generalize hy0 : (packR es).1 = y0 at *
  subst hl2
  refine copy_rows k hs0 (by omega) fun a56 c56 h55 k => ⟨_, _, _, rfl, ?_⟩
  refine copy_bytes k (k.sl (a := a52)) (by omega) fun a59 c59 h58 k => ⟨_, _, _, rfl, k.vnew fun b60 h61 k => ?_⟩
  -- [b60, BV59, V56, BV52, K.., G..]
  refine add_row (y := y0) (a := 0) (ya := 0) k.pull2.pull1 (by omega) fun a64 c64 h63 k => ⟨_, _, _, rfl, ?_⟩
  -- [V64, BV59, BV52, K.., G..]
  have k := k.pull2.drop
  have k : St none_ h h63 (KeptL b1 m ++ (GivL ia ra l rc xs ++ [A.vec 30 1 a64 (xs0.length + 1) c64 ((xs0 ++ [(⟨a59, y0.length, c59, y0⟩ : Sg)]).map sgV), BV a59 y0.length c59 y0])) := k.sel 14 [2, 3, 4, 5, 6, 7, 8, 9, 10, 11, 12, 13, 0, 1] rfl (by decide) (by rfl)
  have rol : ∀ {hh : Heap} {m : Kp}, St none_ h hh (KeptL b1 m ++ (GivL ia ra l rc xs ++ [A.vec 30 1 a64 (xs0.length + 1) c64 ((xs0 ++ [(⟨a59, y0.length, c59, y0⟩ : Sg)]).map sgV), BV a59 y0.length c59 y0])) → RoL none_ hh a64 (xs0.length + 1) (bss ++ [y0]) := fun {hh m} k => by
    have := all_rol r2 (St.dropL (L := GivL ia ra l rc xs) (St.dropL (L := KeptL b1 m) k))
    rwa [r3] at this
  have htot : tot (bss ++ [y0]) = tot bss + (y0.length + 1) := tot_app _ _
  rw [dbl (by omega)]
  generalize hall : bss ++ [y0] = all at *
  have hrs : GivL ia ra l rc xs ++ [A.vec 30 1 a64 (xs0.length + 1) c64 ((xs0 ++ [(⟨a59, y0.length, c59, y0⟩ : Sg)]).map sgV), BV a59 y0.length c59 y0] = GivL ia ra l rc xs ++ [A.vec 30 1 a64 (xs0.length + 1) c64 ((xs0 ++ [(⟨a59, y0.length, c59, y0⟩ : Sg)]).map sgV), BV a59 y0.length c59 y0] := rfl
  revert hrs k giv givro rol
  generalize ([A.vec 30 1 a64 (xs0.length + 1) c64 ((xs0 ++ [(⟨a59, y0.length, c59, y0⟩ : Sg)]).map sgV), BV a59 y0.length c59 y0] : List A) = R2
  intro giv givro k rol _
  refine ⟨fun n hh _ i => ∃ (j : Nat) (m : Kp), i = j ∧ j ≤ 2 * (xs0.length + 1) ∧ n = 2 * (xs0.length + 1) - j ∧ KpOk m (4 * l1 + 4 * l + 4 + 6 * (tot (all.take (j / 2)) + tot (all.take ((j + 1) / 2)))) ∧ St none_ h hh (KeptL b1 m ++ (GivL ia ra l rc xs ++ R2)), ⟨_, 0, m, rfl, by omega, rfl, ok.up (Nat.le_add_right _ _), k⟩, ?_⟩
  clear k ok
  rintro n h67 _ _ i ⟨j, m, rfl, hj, rfl, ok, k⟩
  refine cond_split (fun hc => ?_) (fun hc => ?_)
  · have hjl : j < 2 * (xs0.length + 1) := Int.ofNat_lt.1 (of_decide_eq_true hc)
    refine ⟨by omega, ?_⟩
    rw [hlf (by omega)]
    refine (rol k).one (by omega) (by omega) fun ad x hx hcx q1 q2 q3 => ⟨_, _, _, hcx, ?_⟩
    rw [Int.toNat_natCast] at hx
    have htx := tot_get hx
    have htn := tot_next hx
    have ht1 := tot_take (bss := all) (j / 2 + 1)
    have ht2 := tot_take (bss := all) (j / 2)
    have ht3 := tot_take (bss := all) ((j + 1) / 2)
    refine CallsH.mono (roomy_spec q1.sl q2 (by omega)) ?_
    rintro _ h75 ⟨a76, rfl, k2⟩
    have k := k.add1 k2
    refine ⟨_, _, _, rfl, by omega, (rol k.drop).one (by omega) (by omega) fun ad y hy hcy u1 u2 u3 => ⟨_, _, _, hcy, ?_⟩⟩
    rw [Int.toNat_natCast, hx] at hy
    have hy := Option.some.inj hy
    have hyl : y.l = x.l := by rw [← u2, ← q2, hy]
    rw [hyl]
    refine whole_cut (lo := 0) (by omega) (CallsH.mono (unpack_spec (hw.sl.ext k.ext).ro (roomB_pre (k.sl (a := a76))) q2 (by omega)) ?_)
    rintro _ h81 ⟨a82, c82, rfl, k2⟩
    have k := k.add1 k2
    refine ⟨_, _, _, _, rfl, by omega, (rol k.drop.drop).one (by omega) (by omega) fun ad y hy hcy u1 u2 u3 => ⟨_, _, _, hcy, ?_⟩⟩
    rw [Int.toNat_natCast, hx] at hy
    have hy := Option.some.inj hy
    have hyl : y.l = x.l := by rw [← u2, ← q2, hy]
    rw [hyl]
    refine whole_cut (lo := 0) (by omega) (CallsH.mono (decode_spec (hw.sl.ext k.ext).ro (roomB_pre (k.sl (a := a76))) q2 (by omega) (by omega)) ?_)
    rintro _ h88 ⟨a91, c91, rfl, k2⟩
    have k := k.add1 k2
    refine ⟨_, _, _, _, _, _, _, rfl, k.vnew fun b94 h95 k => k.vall (by rfl) (by rfl) fun h96 k => ⟨by omega, ?_⟩⟩
    refine (rol k.drop.drop.drop.drop).one (by omega) (by omega) fun ad y hy hcy u1 u2 u3 => ⟨_, _, _, hcy, ?_⟩
    rw [Int.toNat_natCast, hx] at hy
    have hy := Option.some.inj hy
    have hyl : y.l = x.l := by rw [← u2, ← q2, hy]
    refine CallsH.mono (roomy_spec u1.sl u2 (by omega)) ?_
    rintro _ h100 ⟨a101, rfl, k2⟩
    have k := k.add1 k2
    refine ⟨_, _, _, rfl, ?_⟩
    have kk : St none_ h h100 (LE a82 (unpackR x.bs).1.length c82 (unpackR x.bs).1 :: (KeptL b1 m ++ (A.blk b94 (seV ⟨a91, c91, (decB x.bs).1⟩).toArray 27 :: VSe ⟨a91, c91, (decB x.bs).1⟩ :: (GivL ia ra l rc xs ++ R2)))) := by
      have k := k.drop.pull3.drop.pull2
      refine k.perm (List.Perm.cons _ ?_)
      exact (List.perm_append_comm_assoc [_, _] (KeptL b1 m) (GivL ia ra l rc xs ++ R2))
    refine CallsH.mono (same_spec (k.sl (a := a76)) (by rw [roomB_len, q2]) (k.sl (a := a101)) (by rw [roomB_len, u2]) (by omega)) ?_
    rintro _ _ ⟨rfl, rfl⟩
    refine ⟨_, rfl, cond_false (by rw [hy]; simp) ?_⟩
    have k := kk
    have hul := unpack_le x.bs
    have hu2 := unpack_len x.bs
    refine CallsH.mono (kevents_call ok k (by omega) (fun e he => ⟨(unpack_rng e he).2, by have := okE_len (unpack_rng e he); omega⟩) (by omega)) ?_
    rintro _ h106 ⟨rfl, m', ok', k⟩
    have k := k.outof
    refine ⟨rfl, _, k.rd (by rfl), _, k.rd (by rfl), _, _, _, k.rd (by rfl), ?_⟩
    have k := k.drop.outof
    refine k.vnew fun b110 h111 k => ?_
    have k := LE.single (x := ⟨a91, c91, (decB x.bs).1⟩) k
    refine CallsH.mono (kevents_call ok' k (by omega) (fun e he => by rw [List.mem_singleton.1 he]; exact ⟨dec_rng _, Nat.le_trans (noEv_of (b := x.bs)) (by omega)⟩) (by omega)) ?_
    rintro _ h113 ⟨rfl, m2, ok2, k⟩
    refine ⟨rfl, 2 * (xs0.length + 1) - (j + 1), by omega, j + 1, m2, wrap_nat hjl (by omega), hjl, rfl, ok2.up ?_, k⟩
    rw [show (j + 1 + 1) / 2 = j / 2 + 1 by omega]
    omega
  have hj2 : j = 2 * (xs0.length + 1) := by
    have : ¬ (j : Int) < ((2 * (xs0.length + 1) : Nat) : Int) := of_decide_eq_false hc
    omega
  have ht1 := tot_take (bss := all) (j / 2)
  have ht2 := tot_take (bss := all) ((j + 1) / 2)
  refine CallsH.mono (stands_spec (giv k) (he.ext k.ext) (by omega) hb2) ?_
  rintro _ h115 ⟨rfl, m5⟩
  have k := k.next m5
  refine ⟨_, rfl, cond_split (fun _ => ?_) (fun h => by cases h)⟩
  refine CallsH.mono (ends_call ok k (by omega)) ?_
  rintro _ h118 ⟨rfl, k⟩
  exact ⟨_, rfl, rfl, k.ext⟩
end Go.Proofs.YtofaihacmoacjaaDoor.F
/-! ## The laws of the wire: answers are fresh. -/
namespace Go.Proofs.YtofaihacmoacjaaDoor.F
open Go Go.VC Go.Proofs
set_option linter.unusedSimpArgs false
set_option linter.unusedVariables false
set_option maxRecDepth 100000
attribute [local irreducible] CallsH RunsTo PureTo

variable {S F G : Nat → Prop} {h0 h h1 : Heap} {L R L' : List A} {a a1 b b0 la wa ia ra : Option Addr} {l l1 c1 c l2 c2 p cl cw q rc : Nat} {bs cs : List UInt8} {bss : List (List UInt8)} {es : List Ev}
theorem wireFresh_spec {ns : List Int} (hw : Wd none_ h) (he : RoE none_ h a l es) (hn : Sl h a1 (ns.map i64V)) (hnl : ns.length = l1) (hnr : ∀ n ∈ ns, -9223372036854775808 ≤ n ∧ n < 9223372036854775808) (hr : RoL none_ h b l2 bss)
    (hb : l ≤ 137438953472) (hb2 : ∀ e ∈ es, e.vs.length ≤ 137438953472) (hb1 : l1 ≤ 137438953472) (hb3 : tot bss ≤ 137438953472) :
    CallsH Tryd.prog 9 #[.slice a l c, .slice a1 l1 c1, .slice b l2 c2] h (fun v h' => v = .bool true ∧ Ext h h') := by
  refine vf9 _ _ _ _ _ _ _ _ _ h _ ?_
  unfold F9
  have hl : es.length = l := by obtain ⟨_, _, _, _, e⟩ := he; exact e
  have hr0 := hr
  obtain ⟨xs0, r1, r2, r3, r4⟩ := hr
  have hl2 : xs0.length = l2 := by rw [← r4, ← r3, List.length_map]
  have htl := tot_len bss
  have hlim := packR_len es
  refine CallsH.mono (begun_spec hw) ?_
  rintro _ h2 ⟨rfl, m2⟩
  refine ⟨_, rfl, cond_false rfl ?_⟩
  refine ((St.fresh h).next m2).vnew fun b4 h5 k => ?_
  have k : St none_ h h5 (BookL b4 bk0 ++ []) := bk0_st k
  refine ⟨fun n hh _ i => ∃ (j : Nat) (m : Bk), i = j ∧ j ≤ l1 ∧ n = l1 - j ∧ BkOk m ∧ BkL m (2 * j) ∧ St none_ h hh (BookL b4 m ++ []), ⟨_, 0, bk0, rfl, by omega, rfl, bk0_ok, bk0_l, k⟩, ?_⟩
  clear k m2
  rintro n h8 _ _ i ⟨j, m, rfl, hj, rfl, ok, bl, k⟩
  refine cond_split (fun hc => ?_) (fun hc => ?_)
  · have hjl : j < l1 := Int.ofNat_lt.1 (of_decide_eq_true hc)
    refine (hn.ext k.ext).one (f := i64V) hnl (by omega) (by omega) fun ad x hx hcx => ⟨_, hcx, ?_⟩
    have hxr := hnr x (List.mem_of_getElem? hx)
    refine CallsH.mono (PutInt_spec hxr.1 hxr.2) ?_
    rintro _ h16 ⟨a17, c17, rfl, k2⟩
    have k := k.add1 k2
    have hpl := (putN_len x).2
    refine ⟨_, _, _, rfl, CallsH.mono (bytes_call ok k (by omega) bl (by omega)) ?_⟩
    rintro _ h19 ⟨rfl, m', ok', bl', k⟩
    refine ⟨rfl, by omega, cond_split (fun _ => ?_) (fun _ => ?_)⟩
    · refine CallsH.mono (whole_call ok' k bl' (by omega)) ?_
      rintro _ h21 ⟨rfl, k⟩
      refine ⟨_, rfl, cond_false rfl ?_⟩
      clear hx hcx hxr hpl
      refine (hn.ext k.ext).one (f := i64V) hnl (by omega) (by omega) fun ad x hx hcx => ⟨_, hcx, ?_⟩
      have hxr := hnr x (List.mem_of_getElem? hx)
      refine CallsH.mono (PutInt_spec hxr.1 hxr.2) ?_
      rintro _ h26 ⟨a27, c27, rfl, k2⟩
      have hpl := (putN_len x).2
      have k := k.add1 k2
      refine ⟨_, _, _, rfl, CallsH.mono (numcheck_spec (k.sl (a := a27)) rfl (k.vec (a := a27)).1.le (by omega)) ?_⟩
      rintro _ h29 ⟨rfl, m29⟩
      exact ⟨_, rfl, cond_false rfl ⟨l1 - (j + 1), by omega, j + 1, m', wrap_nat hjl (by omega), hjl, rfl, ok', bl', (k.next m29).drop⟩⟩
    · clear hx hcx hxr hpl
      refine (hn.ext k.ext).one (f := i64V) hnl (by omega) (by omega) fun ad x hx hcx => ⟨_, hcx, ?_⟩
      have hxr := hnr x (List.mem_of_getElem? hx)
      refine CallsH.mono (PutInt_spec hxr.1 hxr.2) ?_
      rintro _ h26 ⟨a27, c27, rfl, k2⟩
      have hpl := (putN_len x).2
      have k := k.add1 k2
      refine ⟨_, _, _, rfl, CallsH.mono (numcheck_spec (k.sl (a := a27)) rfl (k.vec (a := a27)).1.le (by omega)) ?_⟩
      rintro _ h29 ⟨rfl, m29⟩
      exact ⟨_, rfl, cond_false rfl ⟨l1 - (j + 1), by omega, j + 1, m', wrap_nat hjl (by omega), hjl, rfl, ok', bl', (k.next m29).drop⟩⟩
  have bl := bl.up (q2 := 2 * l1) (by omega)
  clear hc hj
  refine CallsH.mono (given_own (he.ext k.ext) hb hb2) ?_
  rintro _ h40 ⟨ia, ra, rc, xs, rfl, hxe, hxr, kg⟩
  have k : St none_ h h40 (BookL b4 m ++ (GivL ia ra l rc xs ++ [])) := (k.add kg).perm (List.perm_append_comm (l₁ := GivL ia ra l rc xs) (l₂ := BookL b4 m ++ []))
  have giv : ∀ {hh : Heap}, St none_ h hh (GivL ia ra l rc xs ++ []) → Given hh ia ra es := fun {hh} k => GivL.given k hxe hxr
  have givro : ∀ {hh : Heap}, St none_ h hh (GivL ia ra l rc xs ++ []) → RoE none_ hh ia l es := fun {hh} k => by
    have := (giv k).ro
    rwa [hl] at this
  refine ⟨_, _, _, _, _, _, rfl, ?_⟩
  refine whole_cut (lo := 0) (by omega) (CallsH.mono (pack_spec (hw.sl.ext k.ext).ro (givro (St.dropL (L := BookL b4 m) k)) (fun e he => by have := hb2 e he; omega)) ?_)
  rintro _ h45 ⟨a46, c46, rfl, k2⟩
  have k := k.add1 k2
  refine ⟨_, _, _, _, rfl, ?_⟩
  refine copy_bytes k (k.sl (a := a46)) (by omega) fun a50 c50 h49 k => ⟨_, _, _, rfl, ?_⟩
  have k := k.pull1.perm (List.Perm.cons _ (List.perm_middle (l₁ := BookL b4 m)).symm)
  refine CallsH.mono (bytes_call ok k (by omega) bl (by omega)) ?_
  clear bl ok
  rintro _ h52 ⟨rfl, m', ok, bl, k⟩
  refine ⟨rfl, whole_cut (lo := 0) (by omega) (CallsH.mono (pack_spec (hw.sl.ext k.ext).ro (givro (St.dropL (L := BookL b4 m') k).drop) (fun e he => by have := hb2 e he; omega)) ?_)⟩
  rintro _ h55 ⟨a56, c56, rfl, k2⟩
  have k3 := k.add1 k2
  have k4 := k3.drop
  refine ⟨_, _, _, _, rfl, cond_false (by simp) ?_⟩
  refine CallsH.mono (same_spec (k4.outof.sl (a := a50)) rfl (k3.sl (a := a56)) rfl (by omega)) ?_
  rintro _ _ ⟨rfl, rfl⟩
  refine ⟨_, rfl, cond_false (by simp) ?_⟩
  clear k3 k2 k
  refine CallsH.mono (whole_call ok k4 bl (by omega)) ?_
  rintro _ h62 ⟨rfl, k⟩
  refine ⟨_, rfl, cond_false rfl ?_⟩
  refine CallsH.mono (stands_spec (giv (St.dropL (L := BookL b4 m') k).drop) (he.ext k.ext) (by omega) hb2) ?_
  rintro _ h65 ⟨rfl, m65⟩
  have k := k.next m65
  refine ⟨_, rfl, cond_false rfl ?_⟩
  have hs0 := (r1.in k).sl
  generalize hy0 : (packR es).1 = y0 at *
  subst hl2
  refine copy_rows k hs0 (by omega) fun a69 c69 h68 k => ⟨_, _, _, rfl, k.vnew fun b70 h71 k => ?_⟩
  refine add_row (y := y0) (a := 0) (ya := 0) k (by omega) fun a74 c74 h73 k => ⟨_, _, _, rfl, ?_⟩
  -- [V74, Book, BV50, G]
  have k : St none_ h h73 (GivL ia ra l rc xs ++ (BookL b4 m' ++ [A.vec 30 1 a74 (xs0.length + 1) c74 ((xs0 ++ [(⟨a50, y0.length, c50, y0⟩ : Sg)]).map sgV), BV a50 y0.length c50 y0])) := k.sel 12 [9, 10, 11, 1, 2, 3, 4, 5, 6, 7, 0, 8] rfl (by decide) (by rfl)
  have k := St.dropL (L := GivL ia ra l rc xs) k
  have rol : ∀ {hh : Heap} {m : Bk}, St none_ h hh (BookL b4 m ++ [A.vec 30 1 a74 (xs0.length + 1) c74 ((xs0 ++ [(⟨a50, y0.length, c50, y0⟩ : Sg)]).map sgV), BV a50 y0.length c50 y0]) → RoL none_ hh a74 (xs0.length + 1) (bss ++ [y0]) := fun {hh m} k => by
    have := all_rol r2 (St.dropL (L := BookL b4 m) k)
    rwa [r3] at this
  have htot : tot (bss ++ [y0]) = tot bss + (y0.length + 1) := tot_app _ _
  generalize hall : bss ++ [y0] = all at *
  revert k rol
  generalize ([A.vec 30 1 a74 (xs0.length + 1) c74 ((xs0 ++ [(⟨a50, y0.length, c50, y0⟩ : Sg)]).map sgV), BV a50 y0.length c50 y0] : List A) = R2
  intro k rol
  refine ⟨fun n hh _ i => ∃ (j : Nat) (m : Bk), i = j ∧ j ≤ xs0.length + 1 ∧ n = xs0.length + 1 - j ∧ BkOk m ∧ BkL m (2 * l1 + 2 + 6 * tot (all.take j)) ∧ St none_ h hh (BookL b4 m ++ R2), ⟨_, 0, m', rfl, by omega, rfl, ok, bl.up (Nat.le_add_right _ _), k⟩, ?_⟩
  clear k ok bl k4
  rintro n h77 _ _ i ⟨j, m, rfl, hj, rfl, ok, bl, k⟩
  refine cond_split (fun hc => ?_) (fun hc => ?_)
  rotate_left
  · have ht := tot_take (bss := all) j
    refine CallsH.mono (whole_call ok k bl (by omega)) ?_
    rintro _ hf ⟨rfl, k⟩
    refine ⟨_, rfl, cond_split (fun _ => ?_) (fun h => by cases h)⟩
    refine CallsH.mono (untouched_spec (hw.sl.ext k.ext).ro (he.ext k.ext) (hn.ext k.ext) hnl hnr (hr0.in k) hb hb2 hb1 hb3) ?_
    rintro _ hg ⟨rfl, mg⟩
    exact ⟨_, rfl, rfl, k.ext.then mg⟩
  have hjl : j < xs0.length + 1 := Int.ofNat_lt.1 (of_decide_eq_true hc)
  refine (rol k).one (by omega) (by omega) fun ad x hx hcx q1 q2 q3 => ⟨_, _, _, hcx, ?_⟩
  rw [Int.toNat_natCast] at hx
  have htx := tot_get hx
  have htn := tot_next hx
  have ht1 := tot_take (bss := all) (j + 1)
  have hul := unpack_le x.bs
  have hu2 := unpack_len x.bs
  rw [← q2]
  refine copy_bytes k q1.sl (by omega) fun a86 c86 h85 k => ⟨_, _, _, rfl, ?_⟩
  refine CallsH.mono (unpack_spec (hw.sl.ext k.ext).ro (k.sl (a := a86)) rfl (k.vec (a := a86)).1.le) ?_
  rintro _ h88 ⟨a89, c89, rfl, k2⟩
  have k := k.add1 k2
  refine ⟨_, _, _, _, rfl, (rol k.drop.drop).one (by omega) (by omega) fun ad y hy hcy t1 t2 t3 => ⟨_, _, _, hcy, (rol k.drop.drop).one (by omega) (by omega) fun ad2 w hw2 hcw u1 u2 u3 => ⟨_, _, _, hcw, ?_⟩⟩⟩
  rw [Int.toNat_natCast, hx] at hy hw2
  replace hy := Option.some.inj hy
  replace hw2 := Option.some.inj hw2
  have hyl : y.l = x.l := by rw [← t2, ← q2, hy]
  have hwl : w.l = y.l := by rw [← u2, ← t2, ← hw2, hy]
  refine CallsH.mono (roomy_spec t1.sl t2 (by omega)) ?_
  rintro _ h96 ⟨a97, rfl, k2⟩
  have k := k.add1 k2
  refine ⟨_, _, _, rfl, cellH_mod hcw k2.ext id, ?_⟩
  rw [hwl]
  refine whole_cut (lo := 0) (by omega) (CallsH.mono (unpack_spec (hw.sl.ext k.ext).ro (roomB_pre (k.sl (a := a97))) t2 (by omega)) ?_)
  rintro _ h100 ⟨a101, c101, rfl, k2⟩
  rw [← hy] at k2 ⊢
  have k := k.add1 k2
  refine ⟨_, _, _, _, rfl, ?_⟩
  clear hcy hcw hy hw2 hyl hwl t1 t2 t3 u1 u2 u3
  refine CallsH.mono (decode_spec (hw.sl.ext k.ext).ro (k.sl (a := a86)) rfl (k.vec (a := a86)).1.le (by omega)) ?_
  rintro _ h104 ⟨a107, c107, rfl, k2⟩
  have k := k.add1 k2
  refine ⟨_, _, _, _, _, _, _, rfl, k.vnew fun b110 h111 k => k.vall (by rfl) (by rfl) fun h112 k => ?_⟩
  -- [b110, VV107, LE101, BV97, LE89, BV86] ++ (Book ++ R2)
  refine (rol k.drop.drop.drop.drop.drop.drop).one (by omega) (by omega) fun ad y hy hcy t1 t2 t3 => ⟨_, _, _, hcy, (rol k.drop.drop.drop.drop.drop.drop).one (by omega) (by omega) fun ad2 w hw2 hcw u1 u2 u3 => ⟨_, _, _, hcw, ?_⟩⟩
  rw [Int.toNat_natCast, hx] at hy hw2
  replace hy := Option.some.inj hy
  replace hw2 := Option.some.inj hw2
  have hyl : y.l = x.l := by rw [← t2, ← q2, hy]
  have hwl : w.l = y.l := by rw [← u2, ← t2, ← hw2, hy]
  refine ⟨CallsH.mono (roomy_spec t1.sl t2 (by omega)) ?_, ?_⟩
  · rintro _ h118 ⟨a119, rfl, k2⟩
    have k := k.add1 k2
    refine ⟨_, _, _, rfl, cellH_mod hcw k2.ext id, ?_⟩
    have hcw2 : cellH h118 ad2 = some (.slice w.a w.l w.c) := cellH_mod hcw k2.ext id
    rw [hwl] at hcw2 ⊢
    refine whole_cut (lo := 0) (by omega) ⟨?_, ?_⟩
    · refine CallsH.mono (decode_spec (hw.sl.ext k.ext).ro (roomB_pre (k.sl (a := a119))) t2 (by omega) (by omega)) ?_
      rintro _ h122 ⟨a125, c125, rfl, k2⟩
      rw [← hy] at k2 ⊢
      have k := k.add1 k2
      refine ⟨_, _, _, _, _, _, _, rfl, k.vnew fun bD h129 k => k.vall (by rfl) (by rfl) fun h130 k => ?_⟩
      clear hcy hcw hcw2 hy hw2 hyl hwl t1 t2 t3 u1 u2 u3
      -- [bD, VV125, BV119, b110, VV107, LE101, BV97, LE89, BV86] ++ (Book ++ R2)
      have k := k.pull2.drop.pull5.drop
      have k := k.pull6
      -- [BV86, bD, VV125, b110, VV107, LE101, LE89] ++ (Book ++ R2)
      refine ⟨fun n hh jj => ∃ (t : Nat) (bs' : Bytes), jj = t ∧ t ≤ x.bs.length ∧ n = x.bs.length - t ∧ bs'.length = x.bs.length ∧ St none_ h hh (BV a86 x.bs.length c86 bs' :: A.blk bD (seV ⟨a125, c125, (decB x.bs).1⟩).toArray 27 :: VSe ⟨a125, c125, (decB x.bs).1⟩ :: A.blk b110 (seV ⟨a107, c107, (decB x.bs).1⟩).toArray 27 :: VSe ⟨a107, c107, (decB x.bs).1⟩ :: LE a101 (unpackR x.bs).1.length c101 (unpackR x.bs).1 :: LE a89 (unpackR x.bs).1.length c89 (unpackR x.bs).1 :: (BookL b4 m ++ R2)), ⟨_, 0, x.bs, rfl, by omega, rfl, rfl, k⟩, ?_⟩
      clear k
      rintro n h133 _ jj ⟨t, bs', rfl, ht, rfl, hbl, k⟩
      refine cond_split (fun hc => ?_) (fun hc => ?_)
      · have htl : t < x.bs.length := Int.ofNat_lt.1 (of_decide_eq_true hc)
        refine k.vix htl fun g o ha => ?_
        subst ha
        refine put_byte (w := byteV 255) k (by rw [bytesV_len]; exact hbl) htl rfl fun h138 k => ?_
        rw [set_byte] at k
        exact ⟨x.bs.length - (t + 1), by omega, t + 1, bs'.set t 255, wrap_nat htl (by omega), htl, rfl, by rw [List.length_set]; exact hbl, k⟩
      clear hc ht hbl
      have k := k.drop
      -- [bD, VV125, b110, VV107, LE101, LE89] ++ ..
      refine cond_false (by simp) (cond_false (by simp) ?_)
      refine CallsH.mono (lists_spec (LE.ro k.pull5 (fun e he => (unpack_rng e he).2)) (LE.ro k.pull4 (fun e he => (unpack_rng e he).2)) (by omega) (fun e he => by have := okE_len (unpack_rng e he); omega)) ?_
      rintro _ h140 ⟨rfl, m140⟩
      have k := k.next m140
      refine ⟨_, rfl, cond_false (by simp) ⟨_, k.rd (b := b110) (by rfl), _, k.rd (b := b110) (by rfl), _, _, _, k.rd (b := b110) (by rfl), _, k.rd (b := bD) (by rfl), _, k.rd (b := bD) (by rfl), _, _, _, k.rd (b := bD) (by rfl), ?_⟩⟩
      refine CallsH.mono (events_spec (e := (decB x.bs).1) (f := (decB x.bs).1) (k.sl (a := a107)) rfl (k.sl (a := a125)) rfl (Nat.lt_of_le_of_lt (noEv_of (b := x.bs)) (by omega))) ?_
      rintro _ h149 ⟨rfl, m149⟩
      have k := k.next m149
      refine ⟨_, rfl, cond_false (by simp) ?_⟩
      have k := k.drop.drop.pull3
      -- [LE89, b110, VV107, LE101] ++ (Book ++ R2)
      have k : St none_ h h149 (LE a89 (unpackR x.bs).1.length c89 (unpackR x.bs).1 :: (BookL b4 m ++ (A.blk b110 (seV ⟨a107, c107, (decB x.bs).1⟩).toArray 27 :: VSe ⟨a107, c107, (decB x.bs).1⟩ :: LE a101 (unpackR x.bs).1.length c101 (unpackR x.bs).1 :: R2))) := k.perm (List.Perm.cons _ (List.perm_append_comm_assoc [_, _, _] (BookL b4 m) R2))
      refine CallsH.mono (events_call ok k (by omega) (fun e he => by have := okE_len (unpack_rng e he); omega) bl (by omega)) ?_
      rintro _ h152 ⟨rfl, m', ok', bl', k⟩
      have k := k.outof
      refine ⟨rfl, _, k.rd (by rfl), _, k.rd (by rfl), _, _, _, k.rd (by rfl), ?_⟩
      have k := k.drop.outof
      refine k.vnew fun b156 h157 k => ?_
      have k := LE.single (x := ⟨a107, c107, (decB x.bs).1⟩) k
      refine CallsH.mono (events_call ok' k (by omega) (fun e he => by rw [List.mem_singleton.1 he]; exact Nat.le_trans (noEv_of (b := x.bs)) (by omega)) bl' (by omega)) ?_
      rintro _ h159 ⟨rfl, m2, ok2, bl2, k⟩
      refine ⟨rfl, (rol k.outof.drop).one (by omega) (by omega) fun ad z hz hcz t1 t2 t3 => ⟨_, _, _, hcz, (rol k.outof.drop).one (by omega) (by omega) fun ad2 w hw2 hcw u1 u2 u3 => ⟨_, _, _, hcw, ?_⟩⟩⟩
      rw [Int.toNat_natCast, hx] at hz hw2
      replace hz := Option.some.inj hz
      replace hw2 := Option.some.inj hw2
      have hzl : z.l = x.l := by rw [← t2, ← q2, hz]
      have hwl : w.l = z.l := by rw [← u2, ← t2, ← hw2, hz]
      refine CallsH.mono (roomy_spec t1.sl t2 (by omega)) ?_
      rintro _ h165 ⟨a166, rfl, k2⟩
      have k := k.add1 k2
      refine ⟨_, _, _, rfl, cellH_mod hcw k2.ext id, ?_⟩
      rw [hwl]
      refine whole_cut (lo := 0) (by omega) (CallsH.mono (unpack_spec (hw.sl.ext k.ext).ro (roomB_pre (k.sl (a := a166))) t2 (by omega)) ?_)
      rintro _ h169 ⟨a170, c170, rfl, k2⟩
      have k := (k.add1 k2).pull1.drop.into
      refine ⟨_, _, _, _, rfl, by omega, cond_split (fun _ => ?_) (fun _ => ?_)⟩
      · refine CallsH.mono (whole_call ok2 k bl2 (by omega)) ?_
        rintro _ h173 ⟨rfl, k⟩
        refine ⟨_, rfl, cond_false rfl ?_⟩
        refine cond_false (by rw [hz]; simp) ?_
        refine CallsH.mono (lists_spec (LE.ro k.outof (fun e he => (unpack_rng e he).2)) (LE.ro k.outof.drop.outof (fun e he => (unpack_rng e he).2)) (by have := unpack_len z.bs; omega) (fun e he => by have := okE_len (unpack_rng e he); omega)) ?_
        rintro _ h176 ⟨rfl, m176⟩
        refine ⟨_, rfl, cond_false (by rw [hz]; simp) ⟨xs0.length + 1 - (j + 1), by omega, j + 1, m2, wrap_nat hjl (by omega), hjl, rfl, ok2, bl2.up (by omega), (k.next m176).outof.drop.outof.drop⟩⟩
      · skip
        refine cond_false (by rw [hz]; simp) ?_
        refine CallsH.mono (lists_spec (LE.ro k.outof (fun e he => (unpack_rng e he).2)) (LE.ro k.outof.drop.outof (fun e he => (unpack_rng e he).2)) (by have := unpack_len z.bs; omega) (fun e he => by have := okE_len (unpack_rng e he); omega)) ?_
        rintro _ h176 ⟨rfl, m176⟩
        refine ⟨_, rfl, cond_false (by rw [hz]; simp) ⟨xs0.length + 1 - (j + 1), by omega, j + 1, m2, wrap_nat hjl (by omega), hjl, rfl, ok2, bl2.up (by omega), (k.next m176).outof.drop.outof.drop⟩⟩
    · refine VNew.mk fun bD h182 hbD hB mD _ => ?_
      have k := k.alloc hbD hB mD
      refine ⟨cellH_mod hcw2 mD id, CallsH.mono (decode_spec (hw.sl.ext k.ext).ro (roomB_pre (k.sl (a := a119))) t2 (by omega) (by omega)) ?_⟩
      rintro _ h184 ⟨a125, c125, rfl, k2⟩
      rw [← hy] at k2 ⊢
      have k := (k.add1 k2).pull1
      refine ⟨_, _, _, _, _, _, _, rfl, k.vall (by rfl) (by rfl) fun h190 k => ?_⟩
      clear hcy hcw hcw2 hy hw2 hyl hwl t1 t2 t3 u1 u2 u3
      -- [bD, VV125, BV119, b110, VV107, LE101, BV97, LE89, BV86] ++ (Book ++ R2)
      have k := k.pull2.drop.pull5.drop
      have k := k.pull6
      -- [BV86, bD, VV125, b110, VV107, LE101, LE89] ++ (Book ++ R2)
      refine ⟨fun n hh jj => ∃ (t : Nat) (bs' : Bytes), jj = t ∧ t ≤ x.bs.length ∧ n = x.bs.length - t ∧ bs'.length = x.bs.length ∧ St none_ h hh (BV a86 x.bs.length c86 bs' :: A.blk bD (seV ⟨a125, c125, (decB x.bs).1⟩).toArray 27 :: VSe ⟨a125, c125, (decB x.bs).1⟩ :: A.blk b110 (seV ⟨a107, c107, (decB x.bs).1⟩).toArray 27 :: VSe ⟨a107, c107, (decB x.bs).1⟩ :: LE a101 (unpackR x.bs).1.length c101 (unpackR x.bs).1 :: LE a89 (unpackR x.bs).1.length c89 (unpackR x.bs).1 :: (BookL b4 m ++ R2)), ⟨_, 0, x.bs, rfl, by omega, rfl, rfl, k⟩, ?_⟩
      clear k
      rintro n h133 _ jj ⟨t, bs', rfl, ht, rfl, hbl, k⟩
      refine cond_split (fun hc => ?_) (fun hc => ?_)
      · have htl : t < x.bs.length := Int.ofNat_lt.1 (of_decide_eq_true hc)
        refine k.vix htl fun g o ha => ?_
        subst ha
        refine put_byte (w := byteV 255) k (by rw [bytesV_len]; exact hbl) htl rfl fun h138 k => ?_
        rw [set_byte] at k
        exact ⟨x.bs.length - (t + 1), by omega, t + 1, bs'.set t 255, wrap_nat htl (by omega), htl, rfl, by rw [List.length_set]; exact hbl, k⟩
      clear hc ht hbl
      have k := k.drop
      -- [bD, VV125, b110, VV107, LE101, LE89] ++ ..
      refine cond_false (by simp) (cond_false (by simp) ?_)
      refine CallsH.mono (lists_spec (LE.ro k.pull5 (fun e he => (unpack_rng e he).2)) (LE.ro k.pull4 (fun e he => (unpack_rng e he).2)) (by omega) (fun e he => by have := okE_len (unpack_rng e he); omega)) ?_
      rintro _ h140 ⟨rfl, m140⟩
      have k := k.next m140
      refine ⟨_, rfl, cond_false (by simp) ⟨_, k.rd (b := b110) (by rfl), _, k.rd (b := b110) (by rfl), _, _, _, k.rd (b := b110) (by rfl), _, k.rd (b := bD) (by rfl), _, k.rd (b := bD) (by rfl), _, _, _, k.rd (b := bD) (by rfl), ?_⟩⟩
      refine CallsH.mono (events_spec (e := (decB x.bs).1) (f := (decB x.bs).1) (k.sl (a := a107)) rfl (k.sl (a := a125)) rfl (Nat.lt_of_le_of_lt (noEv_of (b := x.bs)) (by omega))) ?_
      rintro _ h149 ⟨rfl, m149⟩
      have k := k.next m149
      refine ⟨_, rfl, cond_false (by simp) ?_⟩
      have k := k.drop.drop.pull3
      -- [LE89, b110, VV107, LE101] ++ (Book ++ R2)
      have k : St none_ h h149 (LE a89 (unpackR x.bs).1.length c89 (unpackR x.bs).1 :: (BookL b4 m ++ (A.blk b110 (seV ⟨a107, c107, (decB x.bs).1⟩).toArray 27 :: VSe ⟨a107, c107, (decB x.bs).1⟩ :: LE a101 (unpackR x.bs).1.length c101 (unpackR x.bs).1 :: R2))) := k.perm (List.Perm.cons _ (List.perm_append_comm_assoc [_, _, _] (BookL b4 m) R2))
      refine CallsH.mono (events_call ok k (by omega) (fun e he => by have := okE_len (unpack_rng e he); omega) bl (by omega)) ?_
      rintro _ h152 ⟨rfl, m', ok', bl', k⟩
      have k := k.outof
      refine ⟨rfl, _, k.rd (by rfl), _, k.rd (by rfl), _, _, _, k.rd (by rfl), ?_⟩
      have k := k.drop.outof
      refine k.vnew fun b156 h157 k => ?_
      have k := LE.single (x := ⟨a107, c107, (decB x.bs).1⟩) k
      refine CallsH.mono (events_call ok' k (by omega) (fun e he => by rw [List.mem_singleton.1 he]; exact Nat.le_trans (noEv_of (b := x.bs)) (by omega)) bl' (by omega)) ?_
      rintro _ h159 ⟨rfl, m2, ok2, bl2, k⟩
      refine ⟨rfl, (rol k.outof.drop).one (by omega) (by omega) fun ad z hz hcz t1 t2 t3 => ⟨_, _, _, hcz, (rol k.outof.drop).one (by omega) (by omega) fun ad2 w hw2 hcw u1 u2 u3 => ⟨_, _, _, hcw, ?_⟩⟩⟩
      rw [Int.toNat_natCast, hx] at hz hw2
      replace hz := Option.some.inj hz
      replace hw2 := Option.some.inj hw2
      have hzl : z.l = x.l := by rw [← t2, ← q2, hz]
      have hwl : w.l = z.l := by rw [← u2, ← t2, ← hw2, hz]
      refine CallsH.mono (roomy_spec t1.sl t2 (by omega)) ?_
      rintro _ h165 ⟨a166, rfl, k2⟩
      have k := k.add1 k2
      refine ⟨_, _, _, rfl, cellH_mod hcw k2.ext id, ?_⟩
      rw [hwl]
      refine whole_cut (lo := 0) (by omega) (CallsH.mono (unpack_spec (hw.sl.ext k.ext).ro (roomB_pre (k.sl (a := a166))) t2 (by omega)) ?_)
      rintro _ h169 ⟨a170, c170, rfl, k2⟩
      have k := (k.add1 k2).pull1.drop.into
      refine ⟨_, _, _, _, rfl, by omega, cond_split (fun _ => ?_) (fun _ => ?_)⟩
      · refine CallsH.mono (whole_call ok2 k bl2 (by omega)) ?_
        rintro _ h173 ⟨rfl, k⟩
        refine ⟨_, rfl, cond_false rfl ?_⟩
        refine cond_false (by rw [hz]; simp) ?_
        refine CallsH.mono (lists_spec (LE.ro k.outof (fun e he => (unpack_rng e he).2)) (LE.ro k.outof.drop.outof (fun e he => (unpack_rng e he).2)) (by have := unpack_len z.bs; omega) (fun e he => by have := okE_len (unpack_rng e he); omega)) ?_
        rintro _ h176 ⟨rfl, m176⟩
        refine ⟨_, rfl, cond_false (by rw [hz]; simp) ⟨xs0.length + 1 - (j + 1), by omega, j + 1, m2, wrap_nat hjl (by omega), hjl, rfl, ok2, bl2.up (by omega), (k.next m176).outof.drop.outof.drop⟩⟩
      · skip
        refine cond_false (by rw [hz]; simp) ?_
        refine CallsH.mono (lists_spec (LE.ro k.outof (fun e he => (unpack_rng e he).2)) (LE.ro k.outof.drop.outof (fun e he => (unpack_rng e he).2)) (by have := unpack_len z.bs; omega) (fun e he => by have := okE_len (unpack_rng e he); omega)) ?_
        rintro _ h176 ⟨rfl, m176⟩
        refine ⟨_, rfl, cond_false (by rw [hz]; simp) ⟨xs0.length + 1 - (j + 1), by omega, j + 1, m2, wrap_nat hjl (by omega), hjl, rfl, ok2, bl2.up (by omega), (k.next m176).outof.drop.outof.drop⟩⟩
  · refine VNew.mk fun bD h242 hbD hB mD _ => ?_
    have k := k.alloc hbD hB mD
    refine ⟨cellH_mod hcw mD id, cellH_mod hcy mD id, CallsH.mono (roomy_spec (t1.sl.ext mD) t2 (by omega)) ?_⟩
    rintro _ h244 ⟨a119, rfl, k2⟩
    have k := k.add1 k2
    refine ⟨_, _, _, rfl, cellH_mod (cellH_mod hcw mD id) k2.ext id, ?_⟩
    rw [hwl]
    refine whole_cut (lo := 0) (by omega) (CallsH.mono (decode_spec (hw.sl.ext k.ext).ro (roomB_pre (k.sl (a := a119))) t2 (by omega) (by omega)) ?_)
    rintro _ h248 ⟨a125, c125, rfl, k2⟩
    rw [← hy] at k2 ⊢
    have k := (k.add1 k2).pull2
    refine ⟨_, _, _, _, _, _, _, rfl, k.vall (by rfl) (by rfl) fun h254 k => ?_⟩
    clear hcy hcw hy hw2 hyl hwl t1 t2 t3 u1 u2 u3
    -- [bD, VV125, BV119, b110, VV107, LE101, BV97, LE89, BV86] ++ (Book ++ R2)
    have k := k.pull2.drop.pull5.drop
    have k := k.pull6
    -- [BV86, bD, VV125, b110, VV107, LE101, LE89] ++ (Book ++ R2)
    refine ⟨fun n hh jj => ∃ (t : Nat) (bs' : Bytes), jj = t ∧ t ≤ x.bs.length ∧ n = x.bs.length - t ∧ bs'.length = x.bs.length ∧ St none_ h hh (BV a86 x.bs.length c86 bs' :: A.blk bD (seV ⟨a125, c125, (decB x.bs).1⟩).toArray 27 :: VSe ⟨a125, c125, (decB x.bs).1⟩ :: A.blk b110 (seV ⟨a107, c107, (decB x.bs).1⟩).toArray 27 :: VSe ⟨a107, c107, (decB x.bs).1⟩ :: LE a101 (unpackR x.bs).1.length c101 (unpackR x.bs).1 :: LE a89 (unpackR x.bs).1.length c89 (unpackR x.bs).1 :: (BookL b4 m ++ R2)), ⟨_, 0, x.bs, rfl, by omega, rfl, rfl, k⟩, ?_⟩
    clear k
    rintro n h133 _ jj ⟨t, bs', rfl, ht, rfl, hbl, k⟩
    refine cond_split (fun hc => ?_) (fun hc => ?_)
    · have htl : t < x.bs.length := Int.ofNat_lt.1 (of_decide_eq_true hc)
      refine k.vix htl fun g o ha => ?_
      subst ha
      refine put_byte (w := byteV 255) k (by rw [bytesV_len]; exact hbl) htl rfl fun h138 k => ?_
      rw [set_byte] at k
      exact ⟨x.bs.length - (t + 1), by omega, t + 1, bs'.set t 255, wrap_nat htl (by omega), htl, rfl, by rw [List.length_set]; exact hbl, k⟩
    clear hc ht hbl
    have k := k.drop
    -- [bD, VV125, b110, VV107, LE101, LE89] ++ ..
    refine cond_false (by simp) (cond_false (by simp) ?_)
    refine CallsH.mono (lists_spec (LE.ro k.pull5 (fun e he => (unpack_rng e he).2)) (LE.ro k.pull4 (fun e he => (unpack_rng e he).2)) (by omega) (fun e he => by have := okE_len (unpack_rng e he); omega)) ?_
    rintro _ h140 ⟨rfl, m140⟩
    have k := k.next m140
    refine ⟨_, rfl, cond_false (by simp) ⟨_, k.rd (b := b110) (by rfl), _, k.rd (b := b110) (by rfl), _, _, _, k.rd (b := b110) (by rfl), _, k.rd (b := bD) (by rfl), _, k.rd (b := bD) (by rfl), _, _, _, k.rd (b := bD) (by rfl), ?_⟩⟩
    refine CallsH.mono (events_spec (e := (decB x.bs).1) (f := (decB x.bs).1) (k.sl (a := a107)) rfl (k.sl (a := a125)) rfl (Nat.lt_of_le_of_lt (noEv_of (b := x.bs)) (by omega))) ?_
    rintro _ h149 ⟨rfl, m149⟩
    have k := k.next m149
    refine ⟨_, rfl, cond_false (by simp) ?_⟩
    have k := k.drop.drop.pull3
    -- [LE89, b110, VV107, LE101] ++ (Book ++ R2)
    have k : St none_ h h149 (LE a89 (unpackR x.bs).1.length c89 (unpackR x.bs).1 :: (BookL b4 m ++ (A.blk b110 (seV ⟨a107, c107, (decB x.bs).1⟩).toArray 27 :: VSe ⟨a107, c107, (decB x.bs).1⟩ :: LE a101 (unpackR x.bs).1.length c101 (unpackR x.bs).1 :: R2))) := k.perm (List.Perm.cons _ (List.perm_append_comm_assoc [_, _, _] (BookL b4 m) R2))
    refine CallsH.mono (events_call ok k (by omega) (fun e he => by have := okE_len (unpack_rng e he); omega) bl (by omega)) ?_
    rintro _ h152 ⟨rfl, m', ok', bl', k⟩
    have k := k.outof
    refine ⟨rfl, _, k.rd (by rfl), _, k.rd (by rfl), _, _, _, k.rd (by rfl), ?_⟩
    have k := k.drop.outof
    refine k.vnew fun b156 h157 k => ?_
    have k := LE.single (x := ⟨a107, c107, (decB x.bs).1⟩) k
    refine CallsH.mono (events_call ok' k (by omega) (fun e he => by rw [List.mem_singleton.1 he]; exact Nat.le_trans (noEv_of (b := x.bs)) (by omega)) bl' (by omega)) ?_
    rintro _ h159 ⟨rfl, m2, ok2, bl2, k⟩
    refine ⟨rfl, (rol k.outof.drop).one (by omega) (by omega) fun ad z hz hcz t1 t2 t3 => ⟨_, _, _, hcz, (rol k.outof.drop).one (by omega) (by omega) fun ad2 w hw2 hcw u1 u2 u3 => ⟨_, _, _, hcw, ?_⟩⟩⟩
    rw [Int.toNat_natCast, hx] at hz hw2
    replace hz := Option.some.inj hz
    replace hw2 := Option.some.inj hw2
    have hzl : z.l = x.l := by rw [← t2, ← q2, hz]
    have hwl : w.l = z.l := by rw [← u2, ← t2, ← hw2, hz]
    refine CallsH.mono (roomy_spec t1.sl t2 (by omega)) ?_
    rintro _ h165 ⟨a166, rfl, k2⟩
    have k := k.add1 k2
    refine ⟨_, _, _, rfl, cellH_mod hcw k2.ext id, ?_⟩
    rw [hwl]
    refine whole_cut (lo := 0) (by omega) (CallsH.mono (unpack_spec (hw.sl.ext k.ext).ro (roomB_pre (k.sl (a := a166))) t2 (by omega)) ?_)
    rintro _ h169 ⟨a170, c170, rfl, k2⟩
    have k := (k.add1 k2).pull1.drop.into
    refine ⟨_, _, _, _, rfl, by omega, cond_split (fun _ => ?_) (fun _ => ?_)⟩
    · refine CallsH.mono (whole_call ok2 k bl2 (by omega)) ?_
      rintro _ h173 ⟨rfl, k⟩
      refine ⟨_, rfl, cond_false rfl ?_⟩
      refine cond_false (by rw [hz]; simp) ?_
      refine CallsH.mono (lists_spec (LE.ro k.outof (fun e he => (unpack_rng e he).2)) (LE.ro k.outof.drop.outof (fun e he => (unpack_rng e he).2)) (by have := unpack_len z.bs; omega) (fun e he => by have := okE_len (unpack_rng e he); omega)) ?_
      rintro _ h176 ⟨rfl, m176⟩
      refine ⟨_, rfl, cond_false (by rw [hz]; simp) ⟨xs0.length + 1 - (j + 1), by omega, j + 1, m2, wrap_nat hjl (by omega), hjl, rfl, ok2, bl2.up (by omega), (k.next m176).outof.drop.outof.drop⟩⟩
    · skip
      refine cond_false (by rw [hz]; simp) ?_
      refine CallsH.mono (lists_spec (LE.ro k.outof (fun e he => (unpack_rng e he).2)) (LE.ro k.outof.drop.outof (fun e he => (unpack_rng e he).2)) (by have := unpack_len z.bs; omega) (fun e he => by have := okE_len (unpack_rng e he); omega)) ?_
      rintro _ h176 ⟨rfl, m176⟩
      refine ⟨_, rfl, cond_false (by rw [hz]; simp) ⟨xs0.length + 1 - (j + 1), by omega, j + 1, m2, wrap_nat hjl (by omega), hjl, rfl, ok2, bl2.up (by omega), (k.next m176).outof.drop.outof.drop⟩⟩
end Go.Proofs.YtofaihacmoacjaaDoor.F
/-! ## WireFresh's row: what it stands on. -/
namespace Go.Proofs.YtofaihacmoacjaaDoor.F
open Go Go.VC
theorem ints_sl {h : Heap} {a : Option Addr} {ns : List Int} (o : Sl h a (ns.flatMap fun x => [i64V x])) : Sl h a (ns.map i64V) :=
  Eq.mp (congrArg (Sl h a) (flat_one i64V ns)) o
end Go.Proofs.YtofaihacmoacjaaDoor.F
