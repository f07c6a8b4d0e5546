/- The laws of the log: LogDamage answers true. Conditions: none. -/
import Derived.Test.YtbaglaoefaoaoaaDoorLP
namespace Go.Proofs.YtbaglaoefaoaoaaDoor.F
open Go Go.VC Go.Proofs
set_option linter.unusedSimpArgs false
set_option linter.unusedVariables false
set_option maxRecDepth 100000
attribute [local irreducible] CallsH RunsTo PureTo

variable {S F G : Nat → Prop} {h0 h h1 : Heap} {L R L' : List A} {a b0 la wa : Option Addr} {l c l2 c2 p b cl cw : Nat} {bs cs : List UInt8} {bss css rs : List Bytes} {s : LogS} {num : BitVec 32}
theorem T47 : SlTy Tryd.prog 47 3 1 8 (.int .i64 0) := ⟨by kernel_rfl, by kernel_rfl, rfl, by omega, by omega⟩
theorem und47 : Tryd.prog.underlying 47 = some (.slice 3) := by kernel_rfl
theorem xor8 (x y : UInt8) : bitsOp .xor .u8 (x.toNat : Int) (y.toNat : Int) = ((x ^^^ y).toNat : Int) := by
  have e : ∀ z : UInt8, BitVec.ofInt 8 (z.toNat : Int) = z.toBitVec := fun z => by
    apply BitVec.eq_of_toNat_eq
    rw [BitVec.toNat_ofInt]
    have h1 : z.toBitVec.toNat = z.toNat := rfl
    have := z.toNat_lt
    rw [h1]; omega
  show IntKind.u8.wrap ((BitVec.ofInt 8 _ ^^^ BitVec.ofInt 8 _).toNat : Int) = _
  rw [e, e, ← UInt8.toBitVec_xor, wrap_u8]
  have h1 : (x ^^^ y).toBitVec.toNat = (x ^^^ y).toNat := rfl
  have := (x ^^^ y).toNat_lt
  rw [h1]; omega
theorem xor_ne {x y : UInt8} (h : y ≠ 0) : x ≠ x ^^^ y := by
  intro e
  have e1 := congrArg (x ^^^ ·) e
  simp only [← UInt8.xor_assoc, UInt8.xor_self, UInt8.zero_xor] at e1
  exact h e1.symm
/-- A part of what lies there, behind what is held. -/
theorem cutApp {sa : Option Addr} {sl sc lo hi : Nat} {x y : Int} {xs seg : Bytes} (k : St S h0 h (BV a l c xs :: R)) (hs : Sl h sa (bytesV seg)) (hl : seg.length = sl) (hc : sl ≤ sc) (hx : x = lo) (hy : y = hi) (h1 : lo ≤ hi) (h2 : hi ≤ sl) (hb : l + (hi - lo) ≤ 140737488355328) {K : KV}
    (q : ∀ a' c' h', St S h0 h' (BV a' (l + (hi - lo)) c' (xs ++ (seg.take hi).drop lo) :: R) → K (.slice a' (l + (hi - lo)) c') h') :
    VSlice 1 sa sc x y (sc : Int) fun a' l' c' => RunsTo Tryd.prog (Builtin.append_ #[26, 26] 26 #[.slice a l c, .slice a' l' c']) h K := by
  refine hs.ro.cut (lo := lo) (hi := hi) (mx := sc) (by rw [bytesV_len, hl, Nat.mul_one]) hx hy rfl h1 h2 (by omega) (Nat.le_refl _) fun a' ro hlen => ?_
  have e : ((bytesV seg).take (hi * 1)).drop (lo * 1) = bytesV ((seg.take hi).drop lo) := by simp [bytesV, List.map_take, List.map_drop]
  rw [e] at ro hlen
  refine k.app T26 und26 (by simp) (Src.slice ro.sl hlen) (oneC_bytes _) (by omega) fun a'' c'' h' k => q a'' c'' h' ?_
  rw [← bytesV_app] at k
  exact k
def frC (rs : List Bytes) (n : Nat) : List Value := (List.range n).map fun k => .int .i64 (fromB rs k)
theorem frC_next (rs : List Bytes) (n : Nat) : frC rs n ++ [.int .i64 (fromB rs n)] = frC rs (n + 1) := by simp [frC, List.range_succ]
theorem fromIdx {n i : Nat} (hs : Sl h a (frC rs n)) (hi : i < n) {K : Int → Prop} (q : K (fromB rs i)) : VIdx a n (i : Int) 1 fun ad => ∃ x : Int, cellH h ad = some (.int .i64 x) ∧ K x := by
  refine hs.one (f := fun k => Value.int .i64 (fromB rs k)) List.length_range (by omega) (by omega) fun ad x hx hc => ⟨_, hc, ?_⟩
  rw [Int.toNat_natCast, List.getElem?_range hi] at hx
  cases hx
  exact q
theorem fromB_next {j : Nat} {r : Bytes} (h : rs[j]? = some r) : fromB rs (j + 1) = fromB rs j + 12 + r.length := by
  unfold fromB
  have e : flen [r] = 12 + r.length := rfl
  rw [List.take_add_one, h, Option.toList_some, flen_app, e]
  omega
theorem fromB_mono (rs : List Bytes) {i j : Nat} (h : i ≤ j) : fromB rs i ≤ fromB rs j := by
  unfold fromB
  have e : rs.take j = rs.take i ++ (rs.take j).drop i := by
    have := List.take_append_drop i (rs.take j)
    rw [List.take_take, Nat.min_eq_left h] at this
    exact this.symm
  rw [e, flen_app]; omega
theorem fromB_all (rs : List Bytes) (num : BitVec 32) : fromB rs rs.length = (segB num rs).length := by unfold fromB; rw [List.take_length, segB_len]
theorem flen_le : ∀ {rs : List Bytes}, (∀ r ∈ rs, r.length ≤ 300) → flen rs ≤ 312 * rs.length
  | [], _ => Nat.le_refl _
  | r :: rs, h => by
    have h1 := h r List.mem_cons_self
    have h2 := flen_le fun y hy => h y (List.mem_cons_of_mem _ hy)
    rw [flen_cons, List.length_cons]; omega
theorem tmod_nat (m n : Nat) : Int.tmod (m : Int) (n : Int) = ((m % n : Nat) : Int) := rfl
theorem logDamage_spec {rolled : Bool} {at_ by_ i0 j0 : Int} (hT : Tab none_ h) (hr : RoL none_ h a l bss) (hby : 0 ≤ by_ ∧ by_ < 256) (hat : -9223372036854775808 ≤ at_ ∧ at_ < 9223372036854775808) (hi0 : -9223372036854775808 ≤ i0 ∧ i0 < 9223372036854775808) (hj0 : -9223372036854775808 ≤ j0 ∧ j0 < 9223372036854775808) :
    CallsH Tryd.prog 6 #[.slice a l c, .bool rolled, .int .i64 at_, .int .u8 by_, .int .i64 i0, .int .i64 j0] h (fun v h' => v = .bool true ∧ Ext h h') := by
  refine vf6 _ _ _ _ _ _ _ _ h _ ?_
  unfold F6
  refine CallsH.mono (begun_spec hT) ?_
  rintro _ h2 ⟨rfl, m2⟩
  have k := (St.fresh h).next m2
  refine ⟨_, rfl, cond_false rfl ?_⟩
  have hst : ∃ n, ∃ (j : Nat) (xs : List Sg), (0 : Int) = j ∧ n = 12 - j ∧ j ≤ 12 ∧ xs.length = j ∧ (∀ x ∈ xs, Ro none_ h x.a (bytesV x.bs) ∧ x.bs.length = x.l ∧ x.l ≤ x.c ∧ x.l ≤ 300) ∧ (0 : Nat) = j ∧ St none_ h h2 [A.vec 26 1 none 0 0 (xs.map sgV)] :=
    ⟨_, 0, [], rfl, rfl, by omega, rfl, by simp, rfl, k.vnil 26 (by omega)⟩
  refine ⟨fun n hh la ll cl i => ∃ (j : Nat) (xs : List Sg), i = j ∧ n = 12 - j ∧ j ≤ 12 ∧ xs.length = j ∧ (∀ x ∈ xs, Ro none_ h x.a (bytesV x.bs) ∧ x.bs.length = x.l ∧ x.l ≤ x.c ∧ x.l ≤ 300) ∧ ll = j ∧ St none_ h hh [A.vec 26 1 la ll cl (xs.map sgV)], hst, ?_⟩
  clear hst k
  rintro n hh _ la ll cl i ⟨j, xs, rfl, rfl, hj, hxl, hxs, rfl, k⟩
  refine cond_split (fun hc => cond_split (fun hc12 => ?_) (fun _ => ?_)) (fun _ => ?_)
  · have hjl : ll < l := Int.ofNat_lt.1 (of_decide_eq_true hc)
    have hj12 : ll < 12 := by
      have : (ll : Int) < 12 := of_decide_eq_true hc12
      omega
    obtain ⟨ys, y1, y2, y3, y4⟩ := id hr
    have hyl : ys.length = l := by rw [← y4, ← y3, List.length_map]
    refine (y1.in k).sl.one hyl (by omega) (by omega) fun ad x hx hcell => ⟨_, _, _, hcell, ?_⟩
    obtain ⟨r1h, r2, r3⟩ := y2 x (List.mem_of_getElem? hx)
    refine ⟨fun h' ra rl rc => h' = hh ∧ ∃ bs : Bytes, Ro none_ h ra (bytesV bs) ∧ bs.length = rl ∧ rl ≤ rc ∧ rl ≤ 300, ?_, ?_⟩
    ·
      refine cond_split (fun h3 => ?_) (fun h3 => ⟨rfl, x.bs, r1h, r2, r3, ?_⟩)
      · have : (x.l : Int) > 300 := of_decide_eq_true h3
        refine r1h.cut (lo := 0) (hi := 300) (mx := x.c) (l := x.l) (by rw [bytesV_len, r2, Nat.mul_one]) rfl rfl rfl (by omega) (by omega) (by omega) (Nat.le_refl _) fun a' ro hlen => ⟨rfl, x.bs.take 300, ?_, ?_, ?_, ?_⟩
        · have e : ((bytesV x.bs).take (300 * 1)).drop (0 * 1) = bytesV (x.bs.take 300) := by simp [bytesV, List.map_take]
          rw [e] at ro
          exact ro
        · rw [List.length_take]; omega
        · omega
        · omega
      · have : ¬ (x.l : Int) > 300 := of_decide_eq_false h3
        omega
    · rintro h15 _ ra rl rc ⟨rfl, bs, q1, q2, q3, q4⟩
      refine k.vnew fun b18 h19 k => ?_
      refine app_cell rfl k (by omega) fun a22 c22 h21 k => ⟨_, _, _, rfl, ?_⟩
      refine ⟨12 - (ll + 1), by omega, ll + 1, xs ++ [⟨ra, rl, rc, bs⟩], by rw [wrap_id (by omega) (by omega)]; omega, rfl, by omega, by simp; omega, ?_, rfl, ?_⟩
      · intro x hx
        rcases List.mem_append.1 hx with hx | hx
        · exact hxs x hx
        · simp only [List.mem_singleton] at hx
          subst hx
          exact ⟨q1, q2, q3, q4⟩
      · rw [List.map_append]
        exact k.only
  ·
    refine ⟨fun h' la ll cl => ∃ rs : List Bytes, rs ≠ [] ∧ rs.length ≤ 12 ∧ (∀ r ∈ rs, r.length ≤ 300) ∧ RoL none_ h' la ll rs ∧ Ext h h', cond_split (fun hz => ?_) (fun hz => ?_), ?_⟩
    · have hz : xs = [] := by
        have : (ll : Int) = 0 := by simpa using hz
        exact List.eq_nil_of_length_eq_zero (by omega)
      subst hz
      have hl0 : ll = 0 := hxl.symm
      subst hl0
      refine k.vnew fun b24 h25 k => k.vnew fun b26 h27 k => ?_
      refine app_cell rfl (k.pull2.pull1) (by omega) fun a30 c30 h29 k => ⟨_, _, _, rfl, ?_⟩
      have k : St none_ h h29 [A.vec 26 1 a30 (0 + 1) c30 ([] ++ [.slice (some ⟨b24, 0, none⟩) 1 1]), A.blk b24 #[.int .u8 1] 5] := k
      refine ⟨[[1]], by simp, by simp, by simp, ⟨[⟨some ⟨b24, 0, none⟩, 1, 1, [1]⟩], (k.sl (a := a30)).ro, ?_, rfl, rfl⟩, k.ext⟩
      intro x hx
      simp only [List.mem_singleton] at hx
      subst hx
      exact ⟨(k.slB (b := b24)).ro, rfl, Nat.le_refl _⟩
    · have hz : xs ≠ [] := by
        rintro rfl
        have : (ll : Int) ≠ 0 := by simpa using hz
        simp at hxl; omega
      refine ⟨xs.map Sg.bs, by simpa using hz, by simp; omega, ?_, ⟨xs, (k.sl (a := la)).ro, fun x hx => ?_, rfl, by simp; omega⟩, k.ext⟩
      · intro r hr
        obtain ⟨x, hx, rfl⟩ := List.mem_map.1 hr
        obtain ⟨_, h2, _, h4⟩ := hxs x hx
        omega
      · obtain ⟨h1, h2, h3, h4⟩ := hxs x hx
        exact ⟨h1.in k, h2, h3⟩
    clear k hxs hxl xs
    rintro h31 _ l33 ll33 cl33 ⟨rs, hne, hlen, h300, hro, m31⟩
    have hrl : rs.length = ll33 := by obtain ⟨_, _, _, _, e⟩ := hro; exact e
    have hpos : 0 < rs.length := List.length_pos_iff.2 hne
    refine CallsH.mono (synced_spec (hT.mod m31) hro hne hlen h300) ?_
    rintro _ h35 ⟨num, a36, l36, c36, rfl, m35, hs, hl36, hc36⟩
    have hmil : ∀ y ∈ rs, y.length ≤ 1048576 := fun y hy => Nat.le_trans (h300 y hy) (by omega)
    have hfl := flen_le h300
    have hsl := segB_len num rs
    have hall := fromB_all rs num
    refine ⟨_, _, _, _, rfl, cond_false rfl (cond_false (by
      have : (l36 : Int) ≠ 0 := by omega
      simpa using this) ?_)⟩
    refine ⟨fun h' v => h' = h35 ∧ ∃ m : Nat, v = m, cond_split (fun hc => ⟨rfl, (-1 - at_).toNat, by
        have : at_ < 0 := of_decide_eq_true hc
        rw [wrap_id (by omega) (by omega)]; omega⟩) (fun hc => ⟨rfl, at_.toNat, by
        have : ¬ at_ < 0 := of_decide_eq_false hc
        omega⟩), ?_⟩
    rintro h39 _ _ ⟨rfl, at1, rfl⟩
    refine ⟨fun h' v => h' = h39 ∧ ∃ m : Nat, v = m, cond_split (fun hc => ⟨rfl, (-1 - i0).toNat, by
        have : i0 < 0 := of_decide_eq_true hc
        rw [wrap_id (by omega) (by omega)]; omega⟩) (fun hc => ⟨rfl, i0.toNat, by
        have : ¬ i0 < 0 := of_decide_eq_false hc
        omega⟩), ?_⟩
    rintro h43 _ _ ⟨rfl, i1, rfl⟩
    refine ⟨fun h' v => h' = h43 ∧ ∃ m : Nat, v = m, cond_split (fun hc => ⟨rfl, (-1 - j0).toNat, by
        have : j0 < 0 := of_decide_eq_true hc
        rw [wrap_id (by omega) (by omega)]; omega⟩) (fun hc => ⟨rfl, j0.toNat, by
        have : ¬ j0 < 0 := of_decide_eq_false hc
        omega⟩), ?_⟩
    rintro h47 _ _ ⟨rfl, j1, rfl⟩
    have hT47 : Tab none_ h47 := hT.mod (m31.then m35)
    have hro47 : RoL none_ h47 l33 ll33 rs := hro.mod m35
    have m47 : Ext h h47 := m31.then m35
    clear m31 m35 hro
    have k := St.fresh h47
    refine ⟨fun h' _ => St none_ h47 h' [], cond_split (fun hby1 => ?_) (fun _ => k), ?_⟩
    · have hb8 : by_ = ((UInt8.ofNat by_.toNat).toNat : Int) := by rw [UInt8.toNat_ofNat']; omega
      have hbn : UInt8.ofNat by_.toNat ≠ 0 := by
        intro e
        rw [e] at hb8
        have : by_ ≠ 0 := by simpa using hby1
        exact this hb8
      refine (k.vnil 5 (sz := 1) (by omega)).app T26 und26 (by simp) (Src.slice hs (by rw [bytesV_len, hl36, Nat.mul_one])) (oneC_bytes _) (by omega) fun a53 c53 h52 k => ⟨_, _, _, rfl, ?_⟩
      simp only [Nat.zero_add] at k ⊢
      have k := k.re (y := BV a53 l36 c53 (segB num rs)) rfl
      have hm : at1 % l36 < l36 := Nat.mod_lt _ (by omega)
      have hv53 := (k.vec (a := a53)).1.le
      obtain ⟨g, o, rfl⟩ := k.vaddr (by omega)
      rw [tmod_nat]
      refine ⟨by omega, by omega, vidx_at hm ⟨((segB num rs).getD (at1 % l36) 0).toNat, sl_cell (k.sl (a := some ⟨g, o, none⟩)) ?_, vidx_at hm ?_⟩⟩
      · show (bytesV (segB num rs))[at1 % l36]? = some (byteV _)
        rw [bytesV, List.getElem?_map, List.getD_eq_getElem?_getD, List.getElem?_eq_getElem (by omega)]; rfl
      · rw [hb8, xor8]
        refine BS.put (x := ⟨some ⟨g, o, none⟩, l36, c53, segB num rs⟩) (b := (segB num rs).getD (at1 % l36) 0 ^^^ UInt8.ofNat by_.toNat) k rfl hm fun h57 k => ?_
        have k := k.re (y := BV (some ⟨g, o, none⟩) l36 c53 ((segB num rs).set (at1 % l36) ((segB num rs).getD (at1 % l36) 0 ^^^ UInt8.ofNat by_.toNat))) rfl
        refine CallsH.mono (refused_spec (hT47.in k) (k.sl (a := some ⟨g, o, none⟩)) (by rw [List.length_set, hl36]) (k.vec (a := some ⟨g, o, none⟩)).1.le (by omega) (read_bad hmil (by omega) (xor_ne hbn))) ?_
        rintro _ h59 ⟨rfl, m59⟩
        exact ⟨_, rfl, cond_false rfl (k.next m59).drop⟩
    clear k
    rintro h61 _ y k
    have hst : ∃ n, ∃ j : Nat, (0 : Int) = j ∧ j ≤ ll33 ∧ n = ll33 - j ∧ (0 : Nat) = j ∧ (12 : Int) = (fromB rs j : Nat) ∧ St none_ h47 h61 [A.vec 3 1 none 0 0 (frC rs j)] := ⟨_, 0, rfl, by omega, rfl, rfl, rfl, k.vnil 3 (by omega)⟩
    refine ⟨fun n hh fa fl fc nn i => ∃ j : Nat, i = j ∧ j ≤ ll33 ∧ n = ll33 - j ∧ fl = j ∧ nn = (fromB rs j : Nat) ∧ St none_ h47 hh [A.vec 3 1 fa fl fc (frC rs j)], hst, ?_⟩
    clear hst k
    rintro n hh _ fa fl fc _ i ⟨j, rfl, hj, rfl, rfl, rfl, k⟩
    have step : ∀ {K : KV}, (∀ a' c' h', St none_ h47 h' [A.vec 3 1 a' (fl + 1) c' (frC rs (fl + 1))] → K (.slice a' (fl + 1) c') h') → VNew hh (.cells #[.int .i64 (fromB rs fl)] 3) fun b72 h73 => RunsTo Tryd.prog (Builtin.append_ #[47, 47] 47 #[.slice fa fl fc, .slice (some ⟨b72, 0, none⟩) 1 1]) h73 K := fun q =>
      k.vnew fun b72 h73 k => by
        have hs72 : Sl h73 (some ⟨b72, 0, none⟩) [.int .i64 (fromB rs fl)] := k.slB (b := b72)
        refine k.pull1.app T47 und47 (by simp) (Src.slice hs72 rfl) (by simp [oneC]) (by omega) fun a' c' h' k => q a' c' h' ?_
        rw [frC_next] at k
        exact k.only
    refine cond_split (fun hc => ?_) (fun hc => ?_)
    · have hjl : fl < ll33 := Int.ofNat_lt.1 (of_decide_eq_true hc)
      refine step fun a76 c76 h75 k => ⟨_, _, _, rfl, ?_⟩
      refine (hro47.in k).one (by omega) (by omega) fun ad x hx hcell r1 r2 r3 => ⟨_, _, _, hcell, ?_⟩
      rw [Int.toNat_natCast] at hx
      have hfn := fromB_next hx
      have hfm := fromB_mono rs (show fl + 1 ≤ rs.length by omega)
      refine ⟨ll33 - (fl + 1), by omega, fl + 1, by rw [wrap_id (by omega) (by omega)]; omega, hjl, rfl, rfl, ?_, k⟩
      rw [wrap_id (n := (fromB rs fl : Int) + 12) (by omega) (by omega), wrap_id (by omega) (by omega)]
      omega
    · have hjl : fl = ll33 := by
        have : ¬ (fl : Int) < ll33 := of_decide_eq_false hc
        omega
      subst hjl
      refine step fun a83 c83 h82 k => ⟨_, _, _, rfl, ?_⟩
      clear step
      refine cond_false (by
        have : (fromB rs fl : Int) = l36 := by rw [← hrl] at *; omega
        simpa using this) ⟨by omega, by omega, ?_⟩
      have hi : i1 % fl < fl := Nat.mod_lt _ (by omega)
      have hj : j1 % fl < fl := Nat.mod_lt _ (by omega)
      rw [tmod_nat, tmod_nat]
      generalize i1 % fl = i at *
      generalize j1 % fl = j at *
      have wr : ∀ x : Nat, x < fl → IntKind.i64.wrap ((x : Int) + 1) = ((x + 1 : Nat) : Int) := fun x hx => by rw [wrap_id (by omega) (by omega)]; omega
      rw [wr i hi, wr j hj]
      have top : ∀ x, x ≤ fl → fromB rs x ≤ l36 := fun x hx => by
        have := fromB_mono rs (show x ≤ rs.length by omega)
        omega
      refine ⟨fun h' _ => St none_ h47 h' [A.vec 3 1 a83 (fl + 1) c83 (frC rs (fl + 1))], cond_split (fun hii => ?_) (fun _ => k), ?_⟩
      · have hi1 : i + 1 < fl := by
          have : (i : Int) < IntKind.i64.wrap ((fl : Int) - 1) := of_decide_eq_true hii
          rw [wrap_id (by omega) (by omega)] at this
          omega
        refine fromIdx (k.sl (a := a83)) (by omega) ?_
        refine cutApp (lo := 0) (hi := fromB rs i) ((k.vnil 5 (sz := 1) (by omega)).re (y := BV none 0 0 []) rfl) (hs.ext k.ext) hl36 hc36 rfl rfl (by omega) (top i (by omega)) (by have := top i (by omega); omega) fun a90 c90 h89 k => ⟨_, _, _, rfl, ?_⟩
        refine fromIdx (k.sl (a := a83)) (by omega) ?_
        refine cutApp (lo := fromB rs (i + 1)) (hi := l36) k (hs.ext k.ext) hl36 hc36 rfl rfl (top _ (by omega)) (by omega) (by have := top i (by omega); omega) fun a96 c96 h95 k => ⟨_, _, _, rfl, ?_⟩
        have hv := (k.vec (a := a96)).1
        refine CallsH.mono (refused_spec (hT47.in k) (k.sl (a := a96)) (by have := hv.len; rwa [bytesV_len, Nat.mul_one] at this) hv.le (by have := top i (by omega); omega) ?_) ?_
        · have e := read_gone (num := num) (rs := rs) (i := i) hmil (by omega) (by omega)
          rw [← hl36, List.take_length, List.drop_zero, List.nil_append]
          exact e
        · rintro _ h98 ⟨rfl, m98⟩
          exact ⟨_, rfl, cond_false rfl (k.next m98).drop⟩
      · clear k
        rintro h100 _ y2 k
        refine cond_split (fun hij => ?_) (fun _ => ⟨rfl, m47.then k.ext⟩)
        have hij : i < j := Int.ofNat_lt.1 (of_decide_eq_true hij)
        have t1 := top i (by omega)
        have t2 := top (i + 1) (by omega)
        have t3 := top j (by omega)
        have t4 := top (j + 1) (by omega)
        refine fromIdx (k.sl (a := a83)) (by omega) ?_
        refine cutApp (lo := 0) (hi := fromB rs i) ((k.vnil 5 (sz := 1) (by omega)).re (y := BV none 0 0 []) rfl) (hs.ext k.ext) hl36 hc36 rfl rfl (by omega) t1 (by omega) fun a108 c108 h107 k => ⟨_, _, _, rfl, ?_⟩
        refine fromIdx (k.sl (a := a83)) (by omega) ?_
        refine fromIdx (k.sl (a := a83)) (by omega) ?_
        refine cutApp (lo := fromB rs j) (hi := fromB rs (j + 1)) k (hs.ext k.ext) hl36 hc36 rfl rfl (fromB_mono rs (by omega)) t4 (by omega) fun a116 c116 h115 k => ⟨_, _, _, rfl, ?_⟩
        refine fromIdx (k.sl (a := a83)) (by omega) ?_
        refine fromIdx (k.sl (a := a83)) (by omega) ?_
        refine cutApp (lo := fromB rs (i + 1)) (hi := fromB rs j) k (hs.ext k.ext) hl36 hc36 rfl rfl (fromB_mono rs (by omega)) t3 (by omega) fun a124 c124 h123 k => ⟨_, _, _, rfl, ?_⟩
        refine fromIdx (k.sl (a := a83)) (by omega) ?_
        refine fromIdx (k.sl (a := a83)) (by omega) ?_
        refine cutApp (lo := fromB rs i) (hi := fromB rs (i + 1)) k (hs.ext k.ext) hl36 hc36 rfl rfl (fromB_mono rs (by omega)) t2 (by omega) fun a132 c132 h131 k => ⟨_, _, _, rfl, ?_⟩
        refine fromIdx (k.sl (a := a83)) (by omega) ?_
        refine cutApp (lo := fromB rs (j + 1)) (hi := l36) k (hs.ext k.ext) hl36 hc36 rfl rfl t4 (by omega) (by omega) fun a138 c138 h137 k => ⟨_, _, _, rfl, ?_⟩
        have hv := (k.vec (a := a138)).1
        refine CallsH.mono (refused_spec (hT47.in k) (k.sl (a := a138)) (by have := hv.len; rwa [bytesV_len, Nat.mul_one] at this) hv.le (by omega) ?_) ?_
        · have e := read_swap (num := num) (rs := rs) (i := i) (j := j) (((segB num rs).take (fromB rs j)).drop (fromB rs (i + 1)) ++ (((segB num rs).take (fromB rs (i + 1))).drop (fromB rs i) ++ ((segB num rs).take l36).drop (fromB rs (j + 1)))) hmil (by omega) hij (by omega)
          simp only [List.append_assoc, List.nil_append, List.drop_zero]
          exact e
        · rintro _ h140 ⟨rfl, m140⟩
          exact ⟨_, rfl, rfl, m47.then (k.next m140).ext⟩
  ·
    refine ⟨fun h' la ll cl => ∃ rs : List Bytes, rs ≠ [] ∧ rs.length ≤ 12 ∧ (∀ r ∈ rs, r.length ≤ 300) ∧ RoL none_ h' la ll rs ∧ Ext h h', cond_split (fun hz => ?_) (fun hz => ?_), ?_⟩
    · have hz : xs = [] := by
        have : (ll : Int) = 0 := by simpa using hz
        exact List.eq_nil_of_length_eq_zero (by omega)
      subst hz
      have hl0 : ll = 0 := hxl.symm
      subst hl0
      refine k.vnew fun b24 h25 k => k.vnew fun b26 h27 k => ?_
      refine app_cell rfl (k.pull2.pull1) (by omega) fun a30 c30 h29 k => ⟨_, _, _, rfl, ?_⟩
      have k : St none_ h h29 [A.vec 26 1 a30 (0 + 1) c30 ([] ++ [.slice (some ⟨b24, 0, none⟩) 1 1]), A.blk b24 #[.int .u8 1] 5] := k
      refine ⟨[[1]], by simp, by simp, by simp, ⟨[⟨some ⟨b24, 0, none⟩, 1, 1, [1]⟩], (k.sl (a := a30)).ro, ?_, rfl, rfl⟩, k.ext⟩
      intro x hx
      simp only [List.mem_singleton] at hx
      subst hx
      exact ⟨(k.slB (b := b24)).ro, rfl, Nat.le_refl _⟩
    · have hz : xs ≠ [] := by
        rintro rfl
        have : (ll : Int) ≠ 0 := by simpa using hz
        simp at hxl; omega
      refine ⟨xs.map Sg.bs, by simpa using hz, by simp; omega, ?_, ⟨xs, (k.sl (a := la)).ro, fun x hx => ?_, rfl, by simp; omega⟩, k.ext⟩
      · intro r hr
        obtain ⟨x, hx, rfl⟩ := List.mem_map.1 hr
        obtain ⟨_, h2, _, h4⟩ := hxs x hx
        omega
      · obtain ⟨h1, h2, h3, h4⟩ := hxs x hx
        exact ⟨h1.in k, h2, h3⟩
    clear k hxs hxl xs
    rintro h31 _ l33 ll33 cl33 ⟨rs, hne, hlen, h300, hro, m31⟩
    have hrl : rs.length = ll33 := by obtain ⟨_, _, _, _, e⟩ := hro; exact e
    have hpos : 0 < rs.length := List.length_pos_iff.2 hne
    refine CallsH.mono (synced_spec (hT.mod m31) hro hne hlen h300) ?_
    rintro _ h35 ⟨num, a36, l36, c36, rfl, m35, hs, hl36, hc36⟩
    have hmil : ∀ y ∈ rs, y.length ≤ 1048576 := fun y hy => Nat.le_trans (h300 y hy) (by omega)
    have hfl := flen_le h300
    have hsl := segB_len num rs
    have hall := fromB_all rs num
    refine ⟨_, _, _, _, rfl, cond_false rfl (cond_false (by
      have : (l36 : Int) ≠ 0 := by omega
      simpa using this) ?_)⟩
    refine ⟨fun h' v => h' = h35 ∧ ∃ m : Nat, v = m, cond_split (fun hc => ⟨rfl, (-1 - at_).toNat, by
        have : at_ < 0 := of_decide_eq_true hc
        rw [wrap_id (by omega) (by omega)]; omega⟩) (fun hc => ⟨rfl, at_.toNat, by
        have : ¬ at_ < 0 := of_decide_eq_false hc
        omega⟩), ?_⟩
    rintro h39 _ _ ⟨rfl, at1, rfl⟩
    refine ⟨fun h' v => h' = h39 ∧ ∃ m : Nat, v = m, cond_split (fun hc => ⟨rfl, (-1 - i0).toNat, by
        have : i0 < 0 := of_decide_eq_true hc
        rw [wrap_id (by omega) (by omega)]; omega⟩) (fun hc => ⟨rfl, i0.toNat, by
        have : ¬ i0 < 0 := of_decide_eq_false hc
        omega⟩), ?_⟩
    rintro h43 _ _ ⟨rfl, i1, rfl⟩
    refine ⟨fun h' v => h' = h43 ∧ ∃ m : Nat, v = m, cond_split (fun hc => ⟨rfl, (-1 - j0).toNat, by
        have : j0 < 0 := of_decide_eq_true hc
        rw [wrap_id (by omega) (by omega)]; omega⟩) (fun hc => ⟨rfl, j0.toNat, by
        have : ¬ j0 < 0 := of_decide_eq_false hc
        omega⟩), ?_⟩
    rintro h47 _ _ ⟨rfl, j1, rfl⟩
    have hT47 : Tab none_ h47 := hT.mod (m31.then m35)
    have hro47 : RoL none_ h47 l33 ll33 rs := hro.mod m35
    have m47 : Ext h h47 := m31.then m35
    clear m31 m35 hro
    have k := St.fresh h47
    refine ⟨fun h' _ => St none_ h47 h' [], cond_split (fun hby1 => ?_) (fun _ => k), ?_⟩
    · have hb8 : by_ = ((UInt8.ofNat by_.toNat).toNat : Int) := by rw [UInt8.toNat_ofNat']; omega
      have hbn : UInt8.ofNat by_.toNat ≠ 0 := by
        intro e
        rw [e] at hb8
        have : by_ ≠ 0 := by simpa using hby1
        exact this hb8
      refine (k.vnil 5 (sz := 1) (by omega)).app T26 und26 (by simp) (Src.slice hs (by rw [bytesV_len, hl36, Nat.mul_one])) (oneC_bytes _) (by omega) fun a53 c53 h52 k => ⟨_, _, _, rfl, ?_⟩
      simp only [Nat.zero_add] at k ⊢
      have k := k.re (y := BV a53 l36 c53 (segB num rs)) rfl
      have hm : at1 % l36 < l36 := Nat.mod_lt _ (by omega)
      have hv53 := (k.vec (a := a53)).1.le
      obtain ⟨g, o, rfl⟩ := k.vaddr (by omega)
      rw [tmod_nat]
      refine ⟨by omega, by omega, vidx_at hm ⟨((segB num rs).getD (at1 % l36) 0).toNat, sl_cell (k.sl (a := some ⟨g, o, none⟩)) ?_, vidx_at hm ?_⟩⟩
      · show (bytesV (segB num rs))[at1 % l36]? = some (byteV _)
        rw [bytesV, List.getElem?_map, List.getD_eq_getElem?_getD, List.getElem?_eq_getElem (by omega)]; rfl
      · rw [hb8, xor8]
        refine BS.put (x := ⟨some ⟨g, o, none⟩, l36, c53, segB num rs⟩) (b := (segB num rs).getD (at1 % l36) 0 ^^^ UInt8.ofNat by_.toNat) k rfl hm fun h57 k => ?_
        have k := k.re (y := BV (some ⟨g, o, none⟩) l36 c53 ((segB num rs).set (at1 % l36) ((segB num rs).getD (at1 % l36) 0 ^^^ UInt8.ofNat by_.toNat))) rfl
        refine CallsH.mono (refused_spec (hT47.in k) (k.sl (a := some ⟨g, o, none⟩)) (by rw [List.length_set, hl36]) (k.vec (a := some ⟨g, o, none⟩)).1.le (by omega) (read_bad hmil (by omega) (xor_ne hbn))) ?_
        rintro _ h59 ⟨rfl, m59⟩
        exact ⟨_, rfl, cond_false rfl (k.next m59).drop⟩
    clear k
    rintro h61 _ y k
    have hst : ∃ n, ∃ j : Nat, (0 : Int) = j ∧ j ≤ ll33 ∧ n = ll33 - j ∧ (0 : Nat) = j ∧ (12 : Int) = (fromB rs j : Nat) ∧ St none_ h47 h61 [A.vec 3 1 none 0 0 (frC rs j)] := ⟨_, 0, rfl, by omega, rfl, rfl, rfl, k.vnil 3 (by omega)⟩
    refine ⟨fun n hh fa fl fc nn i => ∃ j : Nat, i = j ∧ j ≤ ll33 ∧ n = ll33 - j ∧ fl = j ∧ nn = (fromB rs j : Nat) ∧ St none_ h47 hh [A.vec 3 1 fa fl fc (frC rs j)], hst, ?_⟩
    clear hst k
    rintro n hh _ fa fl fc _ i ⟨j, rfl, hj, rfl, rfl, rfl, k⟩
    have step : ∀ {K : KV}, (∀ a' c' h', St none_ h47 h' [A.vec 3 1 a' (fl + 1) c' (frC rs (fl + 1))] → K (.slice a' (fl + 1) c') h') → VNew hh (.cells #[.int .i64 (fromB rs fl)] 3) fun b72 h73 => RunsTo Tryd.prog (Builtin.append_ #[47, 47] 47 #[.slice fa fl fc, .slice (some ⟨b72, 0, none⟩) 1 1]) h73 K := fun q =>
      k.vnew fun b72 h73 k => by
        have hs72 : Sl h73 (some ⟨b72, 0, none⟩) [.int .i64 (fromB rs fl)] := k.slB (b := b72)
        refine k.pull1.app T47 und47 (by simp) (Src.slice hs72 rfl) (by simp [oneC]) (by omega) fun a' c' h' k => q a' c' h' ?_
        rw [frC_next] at k
        exact k.only
    refine cond_split (fun hc => ?_) (fun hc => ?_)
    · have hjl : fl < ll33 := Int.ofNat_lt.1 (of_decide_eq_true hc)
      refine step fun a76 c76 h75 k => ⟨_, _, _, rfl, ?_⟩
      refine (hro47.in k).one (by omega) (by omega) fun ad x hx hcell r1 r2 r3 => ⟨_, _, _, hcell, ?_⟩
      rw [Int.toNat_natCast] at hx
      have hfn := fromB_next hx
      have hfm := fromB_mono rs (show fl + 1 ≤ rs.length by omega)
      refine ⟨ll33 - (fl + 1), by omega, fl + 1, by rw [wrap_id (by omega) (by omega)]; omega, hjl, rfl, rfl, ?_, k⟩
      rw [wrap_id (n := (fromB rs fl : Int) + 12) (by omega) (by omega), wrap_id (by omega) (by omega)]
      omega
    · have hjl : fl = ll33 := by
        have : ¬ (fl : Int) < ll33 := of_decide_eq_false hc
        omega
      subst hjl
      refine step fun a83 c83 h82 k => ⟨_, _, _, rfl, ?_⟩
      clear step
      refine cond_false (by
        have : (fromB rs fl : Int) = l36 := by rw [← hrl] at *; omega
        simpa using this) ⟨by omega, by omega, ?_⟩
      have hi : i1 % fl < fl := Nat.mod_lt _ (by omega)
      have hj : j1 % fl < fl := Nat.mod_lt _ (by omega)
      rw [tmod_nat, tmod_nat]
      generalize i1 % fl = i at *
      generalize j1 % fl = j at *
      have wr : ∀ x : Nat, x < fl → IntKind.i64.wrap ((x : Int) + 1) = ((x + 1 : Nat) : Int) := fun x hx => by rw [wrap_id (by omega) (by omega)]; omega
      rw [wr i hi, wr j hj]
      have top : ∀ x, x ≤ fl → fromB rs x ≤ l36 := fun x hx => by
        have := fromB_mono rs (show x ≤ rs.length by omega)
        omega
      refine ⟨fun h' _ => St none_ h47 h' [A.vec 3 1 a83 (fl + 1) c83 (frC rs (fl + 1))], cond_split (fun hii => ?_) (fun _ => k), ?_⟩
      · have hi1 : i + 1 < fl := by
          have : (i : Int) < IntKind.i64.wrap ((fl : Int) - 1) := of_decide_eq_true hii
          rw [wrap_id (by omega) (by omega)] at this
          omega
        refine fromIdx (k.sl (a := a83)) (by omega) ?_
        refine cutApp (lo := 0) (hi := fromB rs i) ((k.vnil 5 (sz := 1) (by omega)).re (y := BV none 0 0 []) rfl) (hs.ext k.ext) hl36 hc36 rfl rfl (by omega) (top i (by omega)) (by have := top i (by omega); omega) fun a90 c90 h89 k => ⟨_, _, _, rfl, ?_⟩
        refine fromIdx (k.sl (a := a83)) (by omega) ?_
        refine cutApp (lo := fromB rs (i + 1)) (hi := l36) k (hs.ext k.ext) hl36 hc36 rfl rfl (top _ (by omega)) (by omega) (by have := top i (by omega); omega) fun a96 c96 h95 k => ⟨_, _, _, rfl, ?_⟩
        have hv := (k.vec (a := a96)).1
        refine CallsH.mono (refused_spec (hT47.in k) (k.sl (a := a96)) (by have := hv.len; rwa [bytesV_len, Nat.mul_one] at this) hv.le (by have := top i (by omega); omega) ?_) ?_
        · have e := read_gone (num := num) (rs := rs) (i := i) hmil (by omega) (by omega)
          rw [← hl36, List.take_length, List.drop_zero, List.nil_append]
          exact e
        · rintro _ h98 ⟨rfl, m98⟩
          exact ⟨_, rfl, cond_false rfl (k.next m98).drop⟩
      · clear k
        rintro h100 _ y2 k
        refine cond_split (fun hij => ?_) (fun _ => ⟨rfl, m47.then k.ext⟩)
        have hij : i < j := Int.ofNat_lt.1 (of_decide_eq_true hij)
        have t1 := top i (by omega)
        have t2 := top (i + 1) (by omega)
        have t3 := top j (by omega)
        have t4 := top (j + 1) (by omega)
        refine fromIdx (k.sl (a := a83)) (by omega) ?_
        refine cutApp (lo := 0) (hi := fromB rs i) ((k.vnil 5 (sz := 1) (by omega)).re (y := BV none 0 0 []) rfl) (hs.ext k.ext) hl36 hc36 rfl rfl (by omega) t1 (by omega) fun a108 c108 h107 k => ⟨_, _, _, rfl, ?_⟩
        refine fromIdx (k.sl (a := a83)) (by omega) ?_
        refine fromIdx (k.sl (a := a83)) (by omega) ?_
        refine cutApp (lo := fromB rs j) (hi := fromB rs (j + 1)) k (hs.ext k.ext) hl36 hc36 rfl rfl (fromB_mono rs (by omega)) t4 (by omega) fun a116 c116 h115 k => ⟨_, _, _, rfl, ?_⟩
        refine fromIdx (k.sl (a := a83)) (by omega) ?_
        refine fromIdx (k.sl (a := a83)) (by omega) ?_
        refine cutApp (lo := fromB rs (i + 1)) (hi := fromB rs j) k (hs.ext k.ext) hl36 hc36 rfl rfl (fromB_mono rs (by omega)) t3 (by omega) fun a124 c124 h123 k => ⟨_, _, _, rfl, ?_⟩
        refine fromIdx (k.sl (a := a83)) (by omega) ?_
        refine fromIdx (k.sl (a := a83)) (by omega) ?_
        refine cutApp (lo := fromB rs i) (hi := fromB rs (i + 1)) k (hs.ext k.ext) hl36 hc36 rfl rfl (fromB_mono rs (by omega)) t2 (by omega) fun a132 c132 h131 k => ⟨_, _, _, rfl, ?_⟩
        refine fromIdx (k.sl (a := a83)) (by omega) ?_
        refine cutApp (lo := fromB rs (j + 1)) (hi := l36) k (hs.ext k.ext) hl36 hc36 rfl rfl t4 (by omega) (by omega) fun a138 c138 h137 k => ⟨_, _, _, rfl, ?_⟩
        have hv := (k.vec (a := a138)).1
        refine CallsH.mono (refused_spec (hT47.in k) (k.sl (a := a138)) (by have := hv.len; rwa [bytesV_len, Nat.mul_one] at this) hv.le (by omega) ?_) ?_
        · have e := read_swap (num := num) (rs := rs) (i := i) (j := j) (((segB num rs).take (fromB rs j)).drop (fromB rs (i + 1)) ++ (((segB num rs).take (fromB rs (i + 1))).drop (fromB rs i) ++ ((segB num rs).take l36).drop (fromB rs (j + 1)))) hmil (by omega) hij (by omega)
          simp only [List.append_assoc, List.nil_append, List.drop_zero]
          exact e
        · rintro _ h140 ⟨rfl, m140⟩
          exact ⟨_, rfl, rfl, m47.then (k.next m140).ext⟩
end Go.Proofs.YtbaglaoefaoaoaaDoor.F
