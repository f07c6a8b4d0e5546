/- The laws of wire: room behind what is handed in, marks, and what every statement asks ahead. Conditions: none. -/
import Derived.Test.YtofaihacmoacjaaDoorWB
namespace Go.Proofs.YtofaihacmoacjaaDoor.F
open Go Go.VC Go.Proofs
set_option linter.unusedSimpArgs false
set_option linter.unusedVariables false
set_option maxRecDepth 100000
attribute [local irreducible] CallsH RunsTo PureTo

variable {S F G : Nat → Prop} {h0 h h1 : Heap} {L R L' : List A} {a b : Option Addr} {l c l2 c2 p t at_ : Nat} {bs cs : List UInt8} {bss css : List Bytes} {e : Ev} {v : Val} {es fs : List Ev}
def marksB (n : Nat) : Bytes := (List.range n).map fun i => UInt8.ofNat (137 + i)
def roomB (bs : Bytes) : Bytes := bs ++ marksB 66
theorem marksB_len (n : Nat) : (marksB n).length = n := by simp [marksB]
theorem roomB_len (bs : Bytes) : (roomB bs).length = bs.length + 66 := by simp [roomB, marksB_len]
theorem roomB_lo {i : Nat} (h : i < bs.length) : (roomB bs)[i]? = bs[i]? := by unfold roomB; rw [List.getElem?_append_left h]
theorem roomB_hi {i : Nat} (h : bs.length ≤ i) (h2 : i < bs.length + 66) : (roomB bs)[i]? = some (UInt8.ofNat (137 + (i - bs.length))) := by
  unfold roomB marksB
  rw [List.getElem?_append_right h, List.getElem?_map, List.getElem?_range (by omega)]; rfl
theorem storeOne.back {h : Heap} {a : Addr} {v : Value} {K : Heap → Prop} (hv : oneC v = true) (k : storeOne h a v K) : VStore h a v K := by
  cases v <;> first | exact k | (simp [oneC] at hv)
/-- A byte of a slice that is held is written. -/
theorem put_byte {g o i : Nat} {vs : List Value} {w : Value} (k : St S h0 h (A.vec 5 1 (some ⟨g, o, none⟩) l c vs :: R)) (hl : vs.length = l) (hi : i < l) (hw : oneC w = true) {K : Heap → Prop}
    (q : ∀ h', St S h0 h' (A.vec 5 1 (some ⟨g, o, none⟩) l c (vs.set i w) :: R) → K h') : VStore h ⟨g, o + i * 1, none⟩ w K := by
  have := k.vput (ws := [w]) hi rfl (by simpa using hw) (K := K) fun h' k => q h' (by
    rw [Nat.mul_one, Nat.mul_one] at k
    rw [List.set_eq_take_append_cons_drop, if_pos (by omega)]
    simpa using k)
  exact storeOne.back hw this
theorem set_byte (bs : Bytes) (i : Nat) (x : UInt8) : (bytesV bs).set i (byteV x) = bytesV (bs.set i x) := by simp [bytesV, List.map_set]
theorem flat1 {α : Type} (f : α → Value) : ∀ xs : List α, xs.flatMap (fun x => [f x]) = xs.map f
  | [] => rfl
  | x :: xs => by rw [List.flatMap_cons, flat1 f xs]; rfl
theorem made_bytes (m : Nat) : (madeCells (Value.int .u8 0).cells (m * 1)).toList.take (m * 1) = bytesV (List.replicate m 0) := by
  have h := made_rows (f := fun x : UInt8 => [byteV x]) (sz := 1) (fun _ => rfl) (by omega) 0 m
  rw [flat1] at h
  have e : (Value.int .u8 0).cells = [byteV 0].toArray := rfl
  rw [e, h, List.take_of_length_le (by simp)]; rfl
theorem roomy_spec (hs : Sl h a (bytesV bs)) (hl : bs.length = l) (hb : l ≤ 140737488351232) : CallsH Tryd.prog 17 #[.slice a l c] h (fun v h' => ∃ a', v = .slice a' (l + 66) (l + 66) ∧ St none_ h h' [BV a' (l + 66) (l + 66) (roomB bs)]) := by
  refine vf17 _ _ _ h _ ?_
  unfold F17
  have ew : IntKind.i64.wrap ((l : Int) + 66) = ((l + 66 : Nat) : Int) := by rw [wrap_id (by omega) (by omega)]; omega
  rw [ew]
  refine (St.fresh h).make T30 (n := l + 66) (m := l + 66) rfl rfl (Nat.le_refl _) (by omega) fun a3 h2 k => ⟨_, _, _, rfl, ?_⟩
  rw [made_bytes] at k
  have hrl := roomB_len bs
  refine ⟨fun n hh i => ∃ j : Nat, i = j ∧ j ≤ l + 66 ∧ n = l + 66 - j ∧ St none_ h hh [BV a3 (l + 66) (l + 66) (fillTo (roomB bs) 0 j)], ⟨_, 0, rfl, by omega, rfl, ?_⟩, ?_⟩
  · rw [fill_0, hrl, hl]; exact k
  clear k
  rintro n hh _ i ⟨j, rfl, hj, rfl, k⟩
  have hfl : (bytesV (fillTo (roomB bs) 0 j)).length = l + 66 := by rw [bytesV_len, fill_len _ _ (by omega)]; omega
  refine cond_split (fun hc => ?_) (fun hc => ?_)
  · have hjl : j < l + 66 := Int.ofNat_lt.1 (of_decide_eq_true hc)
    refine ⟨fun h' => St none_ h h' [BV a3 (l + 66) (l + 66) (fillTo (roomB bs) 0 (j + 1))], ?_, ?_⟩
    rotate_left
    · intro h' _ k
      exact ⟨_, by omega, j + 1, wrap_nat hjl (by omega), hjl, rfl, k⟩
    refine k.vix hjl fun g o ha => ?_
    subst ha
    refine put_byte k hfl hjl rfl fun h12 k => ?_
    refine cond_split (fun hc2 => ?_) (fun hc2 => ?_)
    · have hjn : j < l := Int.ofNat_lt.1 (of_decide_eq_true hc2)
      refine (hs.ext k.ext).one (f := byteV) hl (by omega) (by omega) fun ad x hx hcx => ⟨_, hcx, ?_⟩
      rw [Int.toNat_natCast] at hx
      refine k.vix hjl fun g o ha => ?_
      cases ha
      refine put_byte (w := byteV x) k (by rw [List.length_set]; exact hfl) hjl (by rfl) fun h16 k => ?_
      rw [List.set_set, set_byte, fill_set (by rw [roomB_lo (by omega)]; exact hx)] at k
      exact k
    · have hjn : l ≤ j := by
        have : ¬ (j : Int) < l := of_decide_eq_false hc2
        omega
      have eb : (.int .u8 (IntKind.u8.wrap (IntKind.i64.wrap (IntKind.i64.wrap (137 + (j : Int)) - (l : Int)))) : Value) = byteV (UInt8.ofNat (137 + (j - bs.length))) := by
        rw [byteV_of, wrap_u8, wrap_id (n := 137 + (j : Int)) (by omega) (by omega), wrap_id (by omega) (by omega)]
        congr 1; omega
      rw [eb, set_byte, fill_set (roomB_hi (by omega) (by omega))] at k
      exact k
  · have hjl : j = l + 66 := by
      have : ¬ (j : Int) < ((l + 66 : Nat) : Int) := of_decide_eq_false hc
      omega
    subst hjl
    have e : fillTo (roomB bs) 0 (l + 66) = roomB bs := by rw [← hl, ← hrl]; exact fill_all _ _
    rw [e] at k
    exact ⟨a3, rfl, k⟩
/-! ### Values with marks behind -/
def markV (i : Nat) : Val := ⟨1, 77 + (i : Int), [], false⟩
theorem mark_spec (i : Int) (h1 : -9223372036854775000 ≤ i) (h2 : i ≤ 9223372036854775000) : CallsH Tryd.prog 45 #[.int .i64 i] h (fun v h' => v = aggV ⟨1, 77 + i, [], false⟩ ∧ Ext h h') := by
  refine vf45 _ h _ ?_
  unfold F45
  rw [wrap_id (n := 77 + i) (by omega) (by omega)]
  exact (St.fresh h).vnew fun _ _ k => k.vall (by rfl) (by rfl) fun _ k => ⟨_, k.rd (by rfl), _, k.rd (by rfl), _, k.rd (by rfl), _, k.rd (by rfl), rfl, k.ext⟩
def marksV (n : Nat) : List Val := (List.range n).map markV
def roomV (vs : List Val) : List Val := vs ++ marksV 34
theorem roomV_len (vs : List Val) : (roomV vs).length = vs.length + 34 := by simp [roomV, marksV]
theorem roomV_lo {vs : List Val} {i : Nat} (h : i < vs.length) : (roomV vs)[i]? = vs[i]? := by unfold roomV; rw [List.getElem?_append_left h]
theorem roomV_hi {vs : List Val} {i : Nat} (h : vs.length ≤ i) (h2 : i < vs.length + 34) : (roomV vs)[i]? = some (markV (i - vs.length)) := by
  unfold roomV marksV
  rw [List.getElem?_append_right h, List.getElem?_map, List.getElem?_range (by omega)]; rfl
theorem made_vals (m : Nat) : (madeCells (Value.agg (valV noVal).toArray).cells (m * 4)).toList.take (m * 4) = (List.replicate m noVal).flatMap valV := by
  have h := made_rows (f := valV) (sz := 4) (fun _ => rfl) (by omega) noVal m
  have e : (Value.agg (valV noVal).toArray).cells = (valV noVal).toArray := rfl
  rw [e, h, List.take_of_length_le (by rw [flatMap_len (sz := 4) (fun _ => rfl), List.length_replicate]; omega)]
theorem whole_cut {a : Option Addr} {lo hi mx : Nat} {K : Option Addr → Nat → Nat → Prop} {sz : Nat} (h1 : hi ≤ mx) (q : K a hi mx) : VSlice sz a mx 0 (hi : Int) (mx : Int) K := by
  refine ⟨0, hi, mx, rfl, rfl, rfl, by omega, h1, Nat.le_refl _, ?_⟩
  have e : (if mx = 0 then a else a.map (·.add (0 * sz))) = a := by
    split
    · rfl
    · cases a with
      | none => rfl
      | some ad => simp [Addr.add]
  rw [e]
  exact q
theorem wide_spec (he : EvRo none_ h a l e) (hb : l ≤ 3518437208780) : CallsH Tryd.prog 12 #[aggE e a l c] h (fun v h' => ∃ a', v = .tuple #[aggE e a' l (l + 34), .slice a' (l + 34) (l + 34)] ∧ St none_ h h' [VV a' (l + 34) (l + 34) (roomV e.vs)]) := by
  refine vf12 _ _ _ _ _ h _ ?_
  unfold F12
  have k := St.fresh h
  have hl := he.len
  have ew : IntKind.i64.wrap ((l : Int) + 34) = ((l + 34 : Nat) : Int) := by rw [wrap_id (by omega) (by omega)]; omega
  refine k.vnew fun b1 h1 k => k.vnew fun b3 h3 k => ⟨_, _, _, k.rd (by rfl), ?_⟩
  rw [ew]
  refine k.make T25 (n := l + 34) (m := l + 34) rfl rfl (Nat.le_refl _) (by omega) fun a8 h7 k => ⟨_, _, _, rfl, ?_⟩
  rw [made_vals] at k
  have hrl := roomV_len e.vs
  refine ⟨fun n hh i => ∃ j : Nat, i = j ∧ j ≤ l + 34 ∧ n = l + 34 - j ∧ St none_ h hh [VV a8 (l + 34) (l + 34) (fillTo (roomV e.vs) noVal j), A.blk b3 #[.string (ByteArray.mk #[]), .int .i64 0, .slice none 0 0] 27, A.blk b1 #[.string (bA e.t), .int .i64 e.tm, .slice a l c] 27], ⟨_, 0, rfl, by omega, rfl, ?_⟩, ?_⟩
  · rw [fill_0, hrl, hl]; exact k
  clear k
  rintro n hh _ i ⟨j, rfl, hj, rfl, k⟩
  have hfl : (fillTo (roomV e.vs) noVal j).length = l + 34 := by rw [fill_len _ _ (by omega)]; omega
  refine cond_split (fun hc => ?_) (fun hc => ?_)
  · have hjl : j < l + 34 := Int.ofNat_lt.1 (of_decide_eq_true hc)
    refine ⟨fun h' => St none_ h h' [VV a8 (l + 34) (l + 34) (fillTo (roomV e.vs) noVal (j + 1)), A.blk b3 #[.string (ByteArray.mk #[]), .int .i64 0, .slice none 0 0] 27, A.blk b1 #[.string (bA e.t), .int .i64 e.tm, .slice a l c] 27], ?_, ?_⟩
    rotate_left
    · intro h' _ k
      exact ⟨_, by omega, j + 1, wrap_nat hjl (by omega), hjl, rfl, k⟩
    have ej : IntKind.i64.wrap ((j : Int) - (l : Int)) = (j : Int) - (l : Int) := wrap_id (by omega) (by omega)
    rw [ej]
    refine CallsH.mono (mark_spec ((j : Int) - (l : Int)) (by omega) (by omega)) ?_
    rintro _ h17 ⟨rfl, m⟩
    have k := k.next m
    refine ⟨_, _, _, _, rfl, k.vix hjl fun g o ha => ?_⟩
    subst ha
    refine St.vrow (f := valV) (fun _ => rfl) (y := ⟨1, 77 + ((j : Int) - (l : Int)), [], false⟩) k hfl hjl (oneC_val _) fun h23 k => ?_
    refine cond_split (fun hc2 => ?_) (fun hc2 => ?_)
    · have hjn : j < l := Int.ofNat_lt.1 (of_decide_eq_true hc2)
      refine ⟨_, _, _, k.rd (by rfl), ?_⟩
      refine valRow (he.ro.in k).sl hl (by omega) (by omega) fun ad x hx c0 c1 c2 c3 => ⟨_, c0, _, c1, _, c2, _, c3, ?_⟩
      rw [Int.toNat_natCast] at hx
      refine k.vix hjl fun g o ha => ?_
      cases ha
      refine St.vrow (f := valV) (fun _ => rfl) (y := x) k (by rw [List.length_set]; exact hfl) hjl (oneC_val _) fun h31 k => ?_
      rw [List.set_set, fill_set (by rw [roomV_lo (by omega)]; exact hx)] at k
      exact k
    · have hjn : l ≤ j := by
        have : ¬ (j : Int) < l := of_decide_eq_false hc2
        omega
      have em : (⟨1, 77 + ((j : Int) - (l : Int)), [], false⟩ : Val) = markV (j - e.vs.length) := by
        unfold markV
        congr 1; omega
      rw [em, fill_set (roomV_hi (by omega) (by omega))] at k
      exact k
  · have hjl : j = l + 34 := by
      have : ¬ (j : Int) < ((l + 34 : Nat) : Int) := of_decide_eq_false hc
      omega
    subst hjl
    have ef : fillTo (roomV e.vs) noVal (l + 34) = roomV e.vs := by rw [← hl, ← hrl]; exact fill_all _ _
    rw [ef] at k
    refine whole_cut (lo := 0) (by omega) ?_
    refine k.vst (Nat.le_of_ble_eq_true (by rfl)) fun h35 k => ⟨_, k.rd (by rfl), _, k.rd (by rfl), _, _, _, k.rd (by rfl), k.vall (by rfl) (by rfl) fun h39 k => ⟨_, k.rd (by rfl), _, k.rd (by rfl), _, _, _, k.rd (by rfl), a8, rfl, k.only⟩⟩
theorem roomV_pre {vs : List Val} (k : Sl h a ((roomV vs).flatMap valV)) : Sl h a (vs.flatMap valV) := by
  unfold roomV at k
  rw [List.flatMap_append] at k
  exact k.ro.pre.sl
theorem tight_spec (hs : Sl h b ((roomV e.vs).flatMap valV)) (he : EvRo none_ h a l e) (hc : l + 34 ≤ c2) (hb : l ≤ 3518437208780) : CallsH Tryd.prog 16 #[.slice b (l + 34 : Nat) c2, aggE e a l c] h (fun v h' => v = .bool true ∧ Ext h h') := by
  refine vf16 _ _ _ _ _ _ _ _ h _ ?_
  unfold F16
  have k := St.fresh h
  have hl := he.len
  have hrl := roomV_len e.vs
  refine k.vnew fun b1 h1 k => ⟨_, _, _, k.rd (by rfl), ?_⟩
  have ew : IntKind.i64.wrap ((l : Int) + 34) = ((l + 34 : Nat) : Int) := by rw [wrap_id (by omega) (by omega)]; omega
  rw [ew]
  refine cond_false (by simp) (whole_cut (lo := 0) (by omega) ⟨_, _, _, k.rd (by rfl), ?_⟩)
  refine CallsH.mono (vals_spec (roomV_pre (hs.ext k.ext)) hl (he.ro.in k).sl hl (by omega)) ?_
  rintro _ _ ⟨rfl, rfl⟩
  refine ⟨_, rfl, cond_false (by simp) ?_⟩
  refine ⟨fun n hh _ i => ∃ j : Nat, i = j ∧ l ≤ j ∧ j ≤ l + 34 ∧ n = l + 34 - j ∧ Ext h hh, ⟨_, l, rfl, Nat.le_refl _, by omega, rfl, k.ext⟩, ?_⟩
  clear k
  rintro n hh _ _ i ⟨j, rfl, hj0, hj, rfl, m⟩
  refine cond_split (fun hc => ?_) (fun hc => ⟨rfl, m⟩)
  have hjl : j < l + 34 := Int.ofNat_lt.1 (of_decide_eq_true hc)
  refine valRow (hs.ext m) (show (roomV e.vs).length = l + 34 by omega) (by omega) (by omega) fun ad x hx c0 c1 c2 c3 => ⟨_, c0, _, c1, _, c2, _, c3, ?_⟩
  rw [Int.toNat_natCast, roomV_hi (by omega) (by omega)] at hx
  have ej : IntKind.i64.wrap ((j : Int) - (l : Int)) = (j : Int) - (l : Int) := wrap_id (by omega) (by omega)
  rw [ej]
  refine CallsH.mono (mark_spec ((j : Int) - (l : Int)) (by omega) (by omega)) ?_
  rintro _ h17 ⟨rfl, m2⟩
  refine ⟨_, _, _, _, rfl, ⟨cellH_mod c0 m2 id, cellH_mod c1 m2 id, cellH_mod c2 m2 id, cellH_mod c3 m2 id⟩, ?_⟩
  have em : (⟨1, 77 + ((j : Int) - (l : Int)), [], false⟩ : Val) = x := by
    rw [← Option.some.inj hx]
    unfold markV
    congr 1; omega
  refine val_neq (x := x) (y := ⟨1, 77 + ((j : Int) - (l : Int)), [], false⟩) ⟨_, rfl, ?_⟩
  rw [em]
  exact cond_false (by simp) ⟨_, by omega, j + 1, wrap_nat hjl (by omega), by omega, hjl, rfl, m.then m2⟩
/-! ### What every statement asks ahead -/
def tickE : Ev := ⟨[84, 105, 99, 107], 5, [⟨1, 12, [], false⟩, ⟨2, 0, [97, 98], false⟩, ⟨3, 0, [], true⟩]⟩
def tickB : Bytes := [8, 84, 105, 99, 107, 10, 6, 1, 24, 2, 4, 97, 98, 3, 1]
theorem tick_enc : encF tickE = tickB := by decide +kernel
theorem tick_fault : faultE tickE = 0 := by decide +kernel
theorem tick_rng : rngE tickE := by
  intro v hv
  simp only [tickE, List.mem_cons, List.not_mem_nil, or_false] at hv
  unfold rngV
  rcases hv with rfl | rfl | rfl <;> decide
theorem tick_dec : decB tickB = (tickE, 15, 0) := by
  have h := Form.ev.gp tickE [] ⟨tick_fault, tick_rng⟩
  have e : encE tickE = tickB := by
    have := tick_enc
    unfold encF at this
    rwa [if_pos tick_fault] at this
  rw [List.append_nil, e] at h
  unfold decB
  rw [h]; rfl
theorem tick_spec : CallsH Tryd.prog 44 #[] h (fun v h' => ∃ a' b', v = .tuple #[aggE tickE a' 3 3, .slice b' 15 15] ∧ St none_ h h' [BV b' 15 15 tickB, VV a' 3 3 tickE.vs]) := by
  refine vf44 h _ ?_
  unfold F44
  have k := St.fresh h
  refine k.vnew fun b1 h2 k => k.vnew fun b3 h4 k => k.vnew fun b5 h6 k => k.vall (by rfl) (by rfl) fun h7 k => ⟨_, k.rd (by rfl), _, k.rd (by rfl), _, _, _, k.rd (by rfl), k.vnew fun b11 h12 k => k.vall (by rfl) (by rfl) fun h13 k => ⟨_, k.rd (by rfl), _, k.rd (by rfl), _, _, _, k.rd (by rfl), _, _, rfl, ?_⟩⟩
  have k := k.sel 4 [0, 2, 1, 3] rfl (by decide) (L' := [_, _, _, _]) (by rfl)
  have k := k.only2
  have k := (k.blkvec (n := 15) (sz := 1) rfl (by omega) (by omega)).pull1
  exact (k.blkvec (n := 3) (sz := 4) rfl (by omega) (by omega)).pull1
theorem begun_spec (hw : Wd none_ h) : CallsH Tryd.prog 11 #[] h (fun v h' => v = .bool true ∧ Ext h h') := by
  refine vf11 h _ ?_
  unfold F11
  refine CallsH.mono tick_spec ?_
  rintro _ h2 ⟨a', b', rfl, k⟩
  refine ⟨_, _, _, _, _, _, _, _, rfl, k.vnew fun b7 h8 k => k.vall (by rfl) (by rfl) fun h9 k => ⟨_, k.rd (by rfl), _, k.rd (by rfl), _, _, _, k.rd (by rfl), ?_⟩⟩
  have hv : Sl h9 a' (tickE.vs.flatMap valV) := k.sl (a := a')
  have hbs : Sl h9 b' (bytesV tickB) := k.sl (a := b')
  refine CallsH.mono (encode_spec (e := tickE) (hw.in k) ⟨hv.ro, rfl, tick_rng⟩ (by omega)) ?_
  rintro _ h14 ⟨a15, c15, rfl, k2⟩
  have k := k.add1 k2
  rw [tick_enc, tick_fault] at *
  refine ⟨_, _, _, _, rfl, ?_⟩
  refine CallsH.mono (decode_spec (hw.in k) (hbs.ext k2.ext) rfl (Nat.le_refl _) (by omega)) ?_
  rintro _ h18 ⟨a21, c21, rfl, k3⟩
  rw [tick_dec] at *
  have k := k.add1 k3
  refine ⟨_, _, _, _, _, _, _, rfl, k.vnew fun b24 h25 k => k.vall (by rfl) (by rfl) fun h26 k => cond_true rfl ?_⟩
  have hb2 : Sl h26 b' (bytesV tickB) := k.sl (a := b')
  refine CallsH.mono (same_spec hb2 rfl (k.sl (a := a15)) rfl (by decide)) ?_
  rintro _ _ ⟨rfl, rfl⟩
  refine ⟨_, rfl, cond_true (by simp) (cond_true rfl (cond_true rfl ⟨_, k.rd (by rfl), _, k.rd (by rfl), _, _, _, k.rd (by rfl), _, k.rd (by rfl), _, k.rd (by rfl), _, _, _, k.rd (by rfl), ?_⟩))⟩
  refine CallsH.mono (events_spec (e := tickE) (f := tickE) (k.sl (a := a21)) rfl (k.sl (a := a')) rfl (by decide)) ?_
  rintro _ h37 ⟨rfl, m⟩
  exact ⟨_, rfl, by simp, (k.next m).ext⟩
end Go.Proofs.YtofaihacmoacjaaDoor.F
