/- The document's frames and streams. Conditions: none. -/
import Derived.Test.YtgdgebmlcgohhaaDoorQK
namespace Go.Proofs.YtgdgebmlcgohhaaDoor.F
open Go Go.VC Go.Proofs
set_option linter.unusedSimpArgs false
set_option linter.unusedVariables false
set_option maxRecDepth 100000
attribute [local irreducible] CallsH RunsTo PureTo

variable {S F G : Nat → Prop} {h0 h h1 : Heap} {L R L' : List A} {a b a1 a2 na ea nb eb ga ha nm ra : Option Addr} {l c l1 c1 l2 c2 p t b1 nc ec nd ed gc hc nk rc : Nat} {bs cs bs1 bs2 w raw m : List UInt8} {err e1 : Int} {v : Val} {bad bad1 sp : Bool} {q : Rq} {u : Rp}
/-! ### Room behind -/
def marksB (n : Nat) : Bytes := (List.range n).map fun i => UInt8.ofNat (181 + i)
def roomB (bs : Bytes) : Bytes := bs ++ marksB 70
theorem marksB_len (n : Nat) : (marksB n).length = n := by simp [marksB]
theorem marksB_next (n : Nat) : marksB (n + 1) = marksB n ++ [UInt8.ofNat (181 + n)] := by unfold marksB; rw [List.range_succ, List.map_append]; rfl
theorem roomB_len (bs : Bytes) : (roomB bs).length = bs.length + 70 := by simp [roomB, marksB_len]
theorem roomy_spec (hs : Sl h a (bytesV bs)) (hl : bs.length = l) (hb : l ≤ 1099511627776) : CallsH Tryd.prog 15 #[.slice a l c] h (fun v h' => ∃ a' c', v = .slice a' (roomB bs).length c' ∧ St none_ h h' [BV a' (roomB bs).length c' (roomB bs)]) := by
  subst hl
  refine vf15 _ _ _ h _ ?_
  unfold F15
  have k := (St.fresh h).vnil 5 (sz := 1) (by omega)
  have k : St none_ h h [BV none 0 0 []] := k
  refine app_bytes (s := bs) k hs (by omega) fun a3 c3 h2 k => ⟨_, _, _, rfl, ?_⟩
  rw [List.nil_append, Nat.zero_add] at k
  refine ⟨fun n hh x lx cx i => ∃ j : Nat, i = j ∧ j ≤ 70 ∧ n = 70 - j ∧ lx = (bs ++ marksB j).length ∧ St none_ h hh [BV x (bs ++ marksB j).length cx (bs ++ marksB j)], ⟨_, 0, rfl, by omega, rfl, by simp [marksB], by simpa [marksB] using k⟩, ?_⟩
  clear k
  rintro n hh _ x _ cx i ⟨j, rfl, hj, rfl, rfl, k⟩
  refine cond_split (fun hc => ?_) (fun hc => ?_)
  · have hj7 : j < 70 := by
      have : (j : Int) < 70 := of_decide_eq_true hc
      omega
    have eb : (.int .u8 (IntKind.u8.wrap (IntKind.i64.wrap (181 + (j : Int)))) : Value) = byteV (UInt8.ofNat (181 + j)) := by
      rw [byteV_of, wrap_u8, wrap_id (by omega) (by omega)]; congr 1
    rw [eb]
    have hml := marksB_len j
    refine k.vnew fun b11 h12 k => app_byte k (by rw [List.length_append]; omega) fun a15 c15 h14 k => ⟨_, _, _, rfl, 70 - (j + 1), by omega, j + 1, wrap_nat hj7 (by omega), by omega, rfl, ?_, ?_⟩
    · rw [marksB_next]; simp only [List.length_append, List.length_singleton]; omega
    · rw [List.append_assoc, ← marksB_next] at k
      have e : (bs ++ marksB j).length + 1 = (bs ++ marksB (j + 1)).length := by rw [marksB_next]; simp only [List.length_append, List.length_singleton]; omega
      rw [e] at k
      exact k
  · have hj7 : j = 70 := by
      have : ¬ (j : Int) < 70 := of_decide_eq_false hc
      omega
    subst hj7
    exact ⟨x, cx, rfl, k⟩
/-! ### Sums, numbers, frames -/
theorem be4_adl (bs : Bytes) : be4 (adl bs) = [UInt8.ofNat ((sums bs).2 / 256), UInt8.ofNat (sums bs).2, UInt8.ofNat ((sums bs).1 / 256), UInt8.ofNat (sums bs).1] := by
  have hlt := sums_lt bs
  have e : ∀ m n : Nat, m % 256 = n % 256 → UInt8.ofNat m = UInt8.ofNat n := fun m n h => by
    apply UInt8.toNat_inj.1
    rw [UInt8.toNat_ofNat', UInt8.toNat_ofNat']; exact h
  unfold be4 adl
  rw [e (((sums bs).2 * 65536 + (sums bs).1) / 16777216) ((sums bs).2 / 256) (by omega), e (((sums bs).2 * 65536 + (sums bs).1) / 65536) (sums bs).2 (by omega), e (((sums bs).2 * 65536 + (sums bs).1) / 256) ((sums bs).1 / 256) (by omega), e ((sums bs).2 * 65536 + (sums bs).1) (sums bs).1 (by omega)]
theorem sum_step {s : Nat × Nat} (x : UInt8) (h1 : s.1 < 65521) (h2 : s.2 < 65521) :
    Int.tmod (IntKind.i64.wrap ((s.1 : Int) + IntKind.i64.wrap (x.toNat : Int))) 65521 = ((sumStep s x).1 : Int) ∧ Int.tmod (IntKind.i64.wrap ((s.2 : Int) + ((sumStep s x).1 : Int))) 65521 = ((sumStep s x).2 : Int) := by
  have hx := x.toNat_lt
  have h3 := (sumStep_lt s x).1
  constructor
  · rw [wrap_id (n := (x.toNat : Int)) (by omega) (by omega), wrap_id (by omega) (by omega)]
    have : (s.1 : Int) + (x.toNat : Int) = ((s.1 + x.toNat : Nat) : Int) := by omega
    rw [this]; rfl
  · rw [wrap_id (by omega) (by omega)]
    have : (s.2 : Int) + ((sumStep s x).1 : Int) = ((s.2 + (sumStep s x).1 : Nat) : Int) := by omega
    rw [this]; rfl
theorem dsum_spec (hs : Sl h a (bytesV bs)) (hl : bs.length = l) (hb : l < 9223372036854775807) : CallsH Tryd.prog 56 #[.slice a l c] h (fun v h' => ∃ a', v = .slice a' 4 4 ∧ St none_ h h' [BV a' 4 4 (be4 (adl bs))]) := by
  refine vf56 _ _ _ h _ ?_
  unfold F56
  refine ⟨fun n hh p q i => ∃ j : Nat, i = j ∧ j ≤ l ∧ n = l - j ∧ p = ((sums (bs.take j)).1 : Int) ∧ q = ((sums (bs.take j)).2 : Int) ∧ hh = h, ⟨_, 0, rfl, by omega, rfl, rfl, rfl, rfl⟩, ?_⟩
  rintro n hh _ _ _ i ⟨j, rfl, hj, rfl, rfl, rfl, rfl⟩
  refine cond_split (fun hc => ?_) (fun hc => ?_)
  · have hjl : j < l := Int.ofNat_lt.1 (of_decide_eq_true hc)
    refine hs.one (f := byteV) hl (by omega) (by omega) fun ad x hx hcx => ⟨_, hcx, by omega, by omega, l - (j + 1), by omega, j + 1, wrap_nat hjl (by omega), hjl, rfl, ?_, ?_, rfl⟩
    · rw [Int.toNat_natCast] at hx
      rw [sums_next hx]
      exact (sum_step x (sums_lt _).1 (sums_lt _).2).1
    · rw [Int.toNat_natCast] at hx
      rw [sums_next hx]
      have h3 := sum_step x (sums_lt (bs.take j)).1 (sums_lt (bs.take j)).2
      rw [h3.1]
      exact h3.2
  · have hjl : j = l := by
      have : ¬ (j : Int) < l := of_decide_eq_false hc
      omega
    subst hjl
    rw [List.take_of_length_le (by omega)]
    have hlt := sums_lt bs
    have h8 : ∀ n : Nat, n < 65521 → (.int .u8 (IntKind.u8.wrap (IntKind.i64.wrap (Int.tdiv (n : Int) 256))) : Value) = byteV (UInt8.ofNat (n / 256)) := fun n hn => by
      have e : Int.tdiv (n : Int) 256 = ((n / 256 : Nat) : Int) := rfl
      rw [byteV_of, e, wrap_id (by omega) (by omega), wrap_u8]
    have h0 : ∀ n : Nat, (.int .u8 (IntKind.u8.wrap (Int.tmod (n : Int) 256)) : Value) = byteV (UInt8.ofNat n) := fun n => by
      have e : Int.tmod (n : Int) 256 = ((n % 256 : Nat) : Int) := rfl
      rw [byteV_of, e, wrap_u8]
      congr 1; omega
    rw [h8 _ hlt.2, h8 _ hlt.1, h0, h0]
    rw [be4_adl]
    refine ⟨by omega, by omega, by omega, by omega, (St.fresh hh).vnew (cs := (bytesV [UInt8.ofNat ((sums bs).2 / 256), UInt8.ofNat (sums bs).2, UInt8.ofNat ((sums bs).1 / 256), UInt8.ofNat (sums bs).1]).toArray) fun b11 h12 k => ⟨_, rfl, ?_⟩⟩
    exact k.blkvec (n := 4) (sz := 1) rfl (by omega) (by omega)
theorem dfour_spec {n : Nat} (hn : n < 4294967296) : CallsH Tryd.prog 55 #[.int .i64 (n : Int)] h (fun v h' => ∃ a', v = .slice a' 4 4 ∧ St none_ h h' [BV a' 4 4 (be4 n)]) := by
  refine vf55 _ h _ ?_
  unfold F55
  have e3 : (.int .u8 (IntKind.u8.wrap (IntKind.i64.wrap (Int.tdiv (n : Int) 16777216))) : Value) = byteV (UInt8.ofNat (n / 16777216)) := by
    have e : Int.tdiv (n : Int) 16777216 = ((n / 16777216 : Nat) : Int) := rfl
    rw [byteV_of, e, wrap_id (by omega) (by omega), wrap_u8]
  have e2 : (.int .u8 (IntKind.u8.wrap (Int.tmod (IntKind.i64.wrap (Int.tdiv (n : Int) 65536)) 256)) : Value) = byteV (UInt8.ofNat (n / 65536)) := by
    have e : Int.tdiv (n : Int) 65536 = ((n / 65536 : Nat) : Int) := rfl
    have e' : Int.tmod ((n / 65536 : Nat) : Int) 256 = ((n / 65536 % 256 : Nat) : Int) := rfl
    rw [byteV_of, e, wrap_id (by omega) (by omega), e', wrap_u8]; congr 1; omega
  have e1 : (.int .u8 (IntKind.u8.wrap (Int.tmod (IntKind.i64.wrap (Int.tdiv (n : Int) 256)) 256)) : Value) = byteV (UInt8.ofNat (n / 256)) := by
    have e : Int.tdiv (n : Int) 256 = ((n / 256 : Nat) : Int) := rfl
    have e' : Int.tmod ((n / 256 : Nat) : Int) 256 = ((n / 256 % 256 : Nat) : Int) := rfl
    rw [byteV_of, e, wrap_id (by omega) (by omega), e', wrap_u8]; congr 1; omega
  have e0 : (.int .u8 (IntKind.u8.wrap (Int.tmod (n : Int) 256)) : Value) = byteV (UInt8.ofNat n) := by
    have e : Int.tmod (n : Int) 256 = ((n % 256 : Nat) : Int) := rfl
    rw [byteV_of, e, wrap_u8]; congr 1; omega
  rw [e3, e2, e1, e0]
  refine ⟨by omega, by omega, by omega, by omega, by omega, by omega, (St.fresh h).vnew (cs := (bytesV (be4 n)).toArray) fun b11 h12 k => ⟨_, rfl, ?_⟩⟩
  exact k.blkvec (n := 4) (sz := 1) rfl (by omega) (by omega)
theorem dof_spec (hs : Sl h a (bytesV w)) (hl : w.length = l) (h4 : 4 ≤ l) (hb : l < 9223372036854775807) : CallsH Tryd.prog 85 #[.slice a l c, .int .i64 0] h (fun v h' => v = .int .i64 (num4 w : Nat) ∧ h' = h) := by
  obtain ⟨b0, b1, b2, b3, r, rfl⟩ := split4 (w := w) (by omega)
  refine vf85 _ _ _ _ h _ ?_
  unfold F85
  have h0 := b0.toNat_lt; have h1 := b1.toNat_lt; have h2 := b2.toNat_lt; have h3 := b3.toNat_lt
  have e2 : num4 (b0 :: b1 :: b2 :: b3 :: r) = un4 b0 b1 b2 b3 := rfl
  refine ⟨fun n hh x i => hh = h ∧ ∃ j : Nat, i = j ∧ j ≤ 4 ∧ n = 4 - j ∧ x = (match j with | 0 => 0 | 1 => (b0.toNat : Int) | 2 => ((b0.toNat * 256 + b1.toNat : Nat) : Int) | 3 => ((b0.toNat * 65536 + b1.toNat * 256 + b2.toNat : Nat) : Int) | _ => ((b0.toNat * 16777216 + b1.toNat * 65536 + b2.toNat * 256 + b3.toNat : Nat) : Int)), ⟨_, rfl, 0, rfl, by omega, rfl, rfl⟩, ?_⟩
  rintro n hh _ x i ⟨rfl, j, rfl, hj, rfl, rfl⟩
  refine cond_split (fun hc => ?_) (fun hc => ?_)
  · have hj4 : j < 4 := by
      have : (j : Int) < 4 := of_decide_eq_true hc
      omega
    have ej : IntKind.i64.wrap ((0 : Int) + (j : Int)) = (j : Int) := by rw [wrap_id (by omega) (by omega)]; omega
    rw [ej]
    refine hs.one (f := byteV) hl (by omega) (by omega) fun ad y hy hcy => ⟨_, hcy, 4 - (j + 1), by omega, rfl, j + 1, wrap_nat hj4 (by omega), hj4, rfl, ?_⟩
    rw [Int.toNat_natCast] at hy
    have hy8 := y.toNat_lt
    rw [wrap_id (n := (y.toNat : Int)) (by omega) (by omega)]
    match j, hj4, hy with
    | 0, _, hy =>
      cases hy
      show IntKind.i64.wrap (IntKind.i64.wrap (0 * 256) + _) = _
      rw [wrap_id (n := 0 * 256) (by omega) (by omega), wrap_id (by omega) (by omega)]; simp
    | 1, _, hy =>
      cases hy
      show IntKind.i64.wrap (IntKind.i64.wrap ((b0.toNat : Int) * 256) + _) = ((b0.toNat * 256 + b1.toNat : Nat) : Int)
      rw [wrap_id (n := (b0.toNat : Int) * 256) (by omega) (by omega), wrap_id (by omega) (by omega)]; omega
    | 2, _, hy =>
      cases hy
      show IntKind.i64.wrap (IntKind.i64.wrap (((b0.toNat * 256 + b1.toNat : Nat) : Int) * 256) + _) = ((b0.toNat * 65536 + b1.toNat * 256 + b2.toNat : Nat) : Int)
      rw [wrap_id (n := ((b0.toNat * 256 + b1.toNat : Nat) : Int) * 256) (by omega) (by omega), wrap_id (by omega) (by omega)]; omega
    | 3, _, hy =>
      cases hy
      show IntKind.i64.wrap (IntKind.i64.wrap (((b0.toNat * 65536 + b1.toNat * 256 + b2.toNat : Nat) : Int) * 256) + _) = ((b0.toNat * 16777216 + b1.toNat * 65536 + b2.toNat * 256 + b3.toNat : Nat) : Int)
      rw [wrap_id (n := ((b0.toNat * 65536 + b1.toNat * 256 + b2.toNat : Nat) : Int) * 256) (by omega) (by omega), wrap_id (by omega) (by omega)]; omega
  · have hj4 : j = 4 := by
      have : ¬ (j : Int) < 4 := of_decide_eq_false hc
      omega
    subst hj4
    rw [e2, un4_eq]
    exact ⟨rfl, rfl⟩
theorem dframe_spec (hs : Sl h a (bytesV bs)) (hl : bs.length = l) (hb : l ≤ 1099511627776) : CallsH Tryd.prog 17 #[.slice a l c] h
    (fun v h' => ∃ a' c', v = .tuple #[.slice a' (frameR bs).1.length c', .int .i64 (frameR bs).2] ∧ St none_ h h' [BV a' (frameR bs).1.length c' (frameR bs).1]) := by
  refine vf17 _ _ _ h _ ?_
  unfold F17
  have k := St.fresh h
  subst hl
  refine cond_split (fun hc => ?_) (fun hc => ?_)
  · have hlt : 65528 < bs.length := by
      have : (65528 : Int) < bs.length := of_decide_eq_true hc
      omega
    have e : frameR bs = ([], 2) := if_pos hlt
    rw [e]
    exact ⟨none, 0, rfl, k.vnil 5 (by omega)⟩
  · have hle : ¬ 65528 < bs.length := fun h => by
      have : ¬ (65528 : Int) < bs.length := of_decide_eq_false hc
      omega
    have e : frameR bs = (frameB bs, 0) := if_neg hle
    rw [e]
    refine CallsH.mono (dfour_spec (by omega)) ?_
    rintro _ h2 ⟨a3, rfl, k2⟩
    have k := k.add1 k2
    refine ⟨_, _, _, rfl, ?_⟩
    refine app_bytes (s := bs) k (hs.ro.in k).sl (by omega) fun a6 c6 h5 k => ⟨_, _, _, rfl, ?_⟩
    refine CallsH.mono (dsum_spec (k.sl (a := a6)) (by rw [List.length_append, be4_len]) (by omega)) ?_
    rintro _ h8 ⟨a9, rfl, k2⟩
    have k := k.add1 k2
    refine ⟨_, _, _, rfl, ?_⟩
    have e4 := be4_len (adl (be4 bs.length ++ bs))
    refine app_bytes (s := be4 (adl (be4 bs.length ++ bs))) k.pull1 (k.sl (a := a9)) (by omega) fun a12 c12 h11 k => ⟨_, _, _, rfl, ?_⟩
    have el : 4 + bs.length + (be4 (adl (be4 bs.length ++ bs))).length = (frameB bs).length := by rw [frameB_len, e4]; omega
    rw [el] at k ⊢
    exact ⟨a12, c12, rfl, k.only⟩
/-! ### Streams -/
def SD (p : Nat) (w : Bytes) (sp : Bool) : A := A.ex fun x : Option Addr × Nat => A.all [A.blk p #[.slice x.1 w.length x.2, .bool sp] 121, BV x.1 w.length x.2 w]
theorem SD.open (k : St S h0 h (SD p w sp :: R)) : ∃ a c, St S h0 h (A.blk p #[.slice a w.length c, .bool sp] 121 :: BV a w.length c w :: R) := by
  obtain ⟨x, k⟩ := St.opens k
  exact ⟨x.1, x.2, St.open (L := [A.blk p #[.slice x.1 w.length x.2, .bool sp] 121, BV x.1 w.length x.2 w]) k⟩
theorem SD.close (k : St S h0 h (A.blk p #[.slice a w.length c, .bool sp] 121 :: BV a w.length c w :: R)) : St S h0 h (SD p w sp :: R) :=
  St.closes (f := fun x : Option Addr × Nat => A.all [A.blk p #[.slice x.1 w.length x.2, .bool sp] 121, BV x.1 w.length x.2 w]) (x := (a, c)) (St.close (L := [A.blk p #[.slice a w.length c, .bool sp] 121, BV a w.length c w]) k)
theorem dnew_spec : CallsH Tryd.prog 19 #[] h (fun v h' => ∃ p, v = .pointer (some ⟨p, 0, none⟩) ∧ St none_ h h' [SD p [] false]) := by
  refine vf19 h _ ?_
  unfold F19
  refine (St.fresh h).vnew fun b1 h2 k => ⟨b1, rfl, ?_⟩
  have k : St none_ h h2 [A.blk b1 #[.slice none 0 0, .bool false] 121] := k
  exact SD.close (w := []) ((k.vnil 5 (sz := 1) (by omega)).pull1)
theorem drest_spec (k0 : Holds [SD p w sp] F h) : CallsH Tryd.prog 58 #[.pointer (some ⟨p, 0, none⟩)] h (fun v h' => v = .int .i64 (w.length : Int) ∧ h' = h) := by
  refine vf58 _ h _ ?_
  unfold F58
  obtain ⟨a, c, k⟩ := SD.open (St.start k0)
  exact VSome.mk ⟨_, _, _, k.rd (by rfl), rfl, rfl⟩
theorem copy_bytes (k : St S h0 h R) {x : Option Addr} {cx : Nat} (hs : Sl h x (bytesV bs)) (hl : bs.length = l) (hb : l ≤ 140737488355328) {K : KV}
    (q : ∀ a' c' h', St S h0 h' (BV a' l c' bs :: R) → K (.slice a' l c') h') : RunsTo Tryd.prog (Builtin.append_ #[35, 35] 35 #[.slice none 0 0, .slice x l cx]) h K := by
  subst hl
  have k := (k.vnil 5 (sz := 1) (by omega)).re (y := BV none 0 0 []) rfl
  have := app_bytes (s := bs) (cx := cx) k hs (by omega) (K := K) fun a' c' h' k => by
    rw [Nat.zero_add, List.nil_append] at k
    rw [Nat.zero_add]
    exact q a' c' h' k
  exact this
theorem sum_diff {x y : Bytes} (hx : x.length = 4) (hy : y.length = 4) : ∀ j, j ≤ 4 → (x.take j = y.take j ↔ ∀ i, i < j → x[i]? = y[i]?) := by
  intro j hj
  constructor
  · intro h i hi
    have := congrArg (·[i]?) h
    simp only [List.getElem?_take, if_pos hi] at this
    exact this
  · intro h
    apply List.ext_getElem?
    intro i
    rw [List.getElem?_take, List.getElem?_take]
    split
    · exact h i ‹_›
    · rfl
set_option maxHeartbeats 1000000 in
theorem dfeed_spec (k0 : Holds [SD p w sp] F h) (hs : Ro F h b (bytesV bs)) (hl : bs.length = l) (hb : w.length + l ≤ 1099511627776) : CallsH Tryd.prog 57 #[.pointer (some ⟨p, 0, none⟩), .slice b l c] h
    (fun v h' => ∃ x c', v = .tuple #[.slice x (feedR w sp bs).1.length c', .int .i64 (feedR w sp bs).2.1] ∧ St F h h' [SD p (feedR w sp bs).2.2.1 (feedR w sp bs).2.2.2, bytE.L x (feedR w sp bs).1.length c' (feedR w sp bs).1]) := by
  subst hl
  refine vf57 _ _ _ _ h _ ?_
  unfold F57
  obtain ⟨a, c0, k⟩ := SD.open (St.start k0)
  refine VSome.mk ⟨_, k.rd (by rfl), ?_⟩
  cases hsp : sp
  rotate_left
  · subst hsp
    exact cond_true rfl ⟨none, 0, rfl, (El.nil bytE (SD.close k)).pull1⟩
  subst hsp
  refine cond_false rfl (VSome.mk ⟨_, _, _, k.rd (by rfl), ?_⟩)
  refine app_bytes (s := bs) k.pull1 (hs.in k).sl (by omega) fun a7 c7 h6 k => ⟨_, _, _, rfl, VSome.mk (k.vst (Nat.le_of_ble_eq_true (by rfl)) fun h9 k => ?_)⟩
  have hWl : (w ++ bs).length = w.length + bs.length := List.length_append
  rw [← hWl] at k hb
  have e : feedR w false bs = ((cut (w ++ bs)).1, if (cut (w ++ bs)).2.2 then 300 else 0, (cut (w ++ bs)).2.1, (cut (w ++ bs)).2.2) := rfl
  rw [e]
  have hlen := cuts_len _ (w ++ bs) (Nat.lt_succ_self _)
  rw [← hWl]
  generalize w ++ bs = W at k hb hlen ⊢
  clear e hWl
  have k : St F h h9 [BV a7 W.length c7 W, A.blk p #[.slice none 0 0, .bool false] 121] := k
  refine ⟨fun m h' y1 y2 y3 y4 al ll cl o lo co => ∃ (ps : List Bytes) (w' : Bytes), lo = ps.length ∧ ll = w'.length ∧ m = w'.length ∧ w'.length ≤ W.length ∧ ps.length ≤ (cut W).1.length ∧ cut W = (ps ++ (cut w').1, (cut w').2) ∧
    St F h h' [BV al w'.length cl w', bytE.L o ps.length co ps, A.blk p #[.slice none 0 0, .bool false] 121], ⟨_, [], W, rfl, rfl, rfl, Nat.le_refl _, Nat.zero_le _, rfl, (El.nil bytE k).pull1⟩, ?_⟩
  clear k
  rintro m h12 _ y1 y2 y3 y4 al _ cl o _ co ⟨ps, w', rfl, rfl, rfl, hw', hps, hcut, k⟩
  have fin : ∀ {h' : Heap} {x : Option Addr} {cx : Nat}, cut W = (ps, w', false) → St F h h' [BV x w'.length cx w', BV al w'.length cl w', bytE.L o ps.length co ps, A.blk p #[.slice x w'.length cx, .bool false] 121] →
      ∃ x c', (Value.tuple #[.slice o ps.length co, .int .i64 0]) = .tuple #[.slice x (cut W).1.length c', .int .i64 (if (cut W).2.2 then 300 else 0)] ∧ St F h h' [SD p (cut W).2.1 (cut W).2.2, bytE.L x (cut W).1.length c' (cut W).1] := fun e k => by
    rw [e]
    exact ⟨o, co, rfl, (SD.close (k.sel 4 [3, 0, 2, 1] rfl (by decide) (L' := [_, _, _, _]) (by rfl))).only2⟩
  have badf : ∀ {h' : Heap}, cut W = (ps, [], true) → St F h h' [BV al w'.length cl w', bytE.L o ps.length co ps, A.blk p #[.slice none 0 0, .bool true] 121] →
      ∃ x c', (Value.tuple #[.slice o ps.length co, .int .i64 300]) = .tuple #[.slice x (cut W).1.length c', .int .i64 (if (cut W).2.2 then 300 else 0)] ∧ St F h h' [SD p (cut W).2.1 (cut W).2.2, bytE.L x (cut W).1.length c' (cut W).1] := fun {h'} e k => by
    rw [e]
    have k := (k.pull2.vnil 5 (sz := 1) (by omega)).pull1
    have k : St F h h' [A.blk p #[.slice none 0 0, .bool true] 121, BV none 0 0 [], BV al w'.length cl w', bytE.L o ps.length co ps] := k
    exact ⟨o, co, rfl, (SD.close (w := []) k).pull2.pull1.only2⟩
  have clw := (k.vec (a := al)).1.le
  refine cond_split (fun hc => ?_) (fun hc => ?_)
  rotate_left
  · have h4 : w'.length < 4 := by
      have : ¬ (w'.length : Int) ≥ 4 := of_decide_eq_false hc
      omega
    have hm : nextF w' = .more := by unfold nextF; rw [if_pos h4]
    rw [cut_more hm, List.append_nil] at hcut
    refine copy_bytes k (k.sl (a := al)) rfl (by omega) fun a62 c62 h61 k => ⟨_, _, _, rfl, VSome.mk (k.vst (Nat.le_of_ble_eq_true (by rfl)) fun h64 k => fin hcut k)⟩
  have h4 : ¬ w'.length < 4 := by
    have : (w'.length : Int) ≥ 4 := of_decide_eq_true hc
    omega
  clear hc
  have hn := num4_lt w'
  refine CallsH.mono (dof_spec (k.sl (a := al)) rfl (by omega) (by omega)) ?_
  rintro _ _ ⟨rfl, rfl⟩
  refine ⟨_, rfl, cond_split (fun hc => ?_) (fun hc => ?_)⟩
  · have hc : 65528 < num4 w' := by
      have : ((num4 w' : Nat) : Int) > 65528 := of_decide_eq_true hc
      omega
    have hm : nextF w' = .bad := by unfold nextF; rw [if_neg h4, if_pos hc]
    rw [cut_bad hm, List.append_nil] at hcut
    exact VSome.mk (k.vst (Nat.le_of_ble_eq_true (by rfl)) fun h23 k => badf hcut k)
  have hm5 : ¬ 65528 < num4 w' := by
    have : ¬ ((num4 w' : Nat) : Int) > 65528 := of_decide_eq_false hc
    omega
  clear hc
  have e1 : IntKind.i64.wrap (((num4 w' : Nat) : Int) + 4) = ((num4 w' + 4 : Nat) : Int) := by rw [wrap_id (by omega) (by omega)]; omega
  have e2 : IntKind.i64.wrap (((num4 w' : Nat) : Int) + 8) = ((num4 w' + 8 : Nat) : Int) := by rw [wrap_id (by omega) (by omega)]; omega
  rw [e1, e2]
  refine cond_split (fun hc => ?_) (fun hc => ?_)
  · have hc : w'.length < num4 w' + 8 := Int.ofNat_lt.1 (of_decide_eq_true hc)
    have hm : nextF w' = .more := by unfold nextF; rw [if_neg h4, if_neg hm5, if_pos hc]
    rw [cut_more hm, List.append_nil] at hcut
    refine copy_bytes k (k.sl (a := al)) rfl (by omega) fun a62 c62 h61 k => ⟨_, _, _, rfl, VSome.mk (k.vst (Nat.le_of_ble_eq_true (by rfl)) fun h64 k => fin hcut k)⟩
  have h8 : ¬ w'.length < num4 w' + 8 := fun h => (of_decide_eq_false hc) (Int.ofNat_lt.2 h)
  clear hc
  refine cutA (bs := w') rfl (lo := 0) (hi := num4 w' + 4) (mx := cl) rfl rfl rfl (by omega) (by omega) (by omega) (Nat.le_refl _) fun a29 r29 l29 => ?_
  rw [List.drop_zero, Nat.sub_zero] at l29
  rw [List.drop_zero] at r29
  refine CallsH.mono (dsum_spec (r29 _ _ (k.sl (a := al)).ro).sl l29 (by omega)) ?_
  rintro _ h31 ⟨a32, rfl, k2⟩
  have k := k.add1 k2
  generalize hX : be4 (adl (w'.take (num4 w' + 4))) = X at k
  have hXl : X.length = 4 := by rw [← hX]; rfl
  have hYl : ((w'.drop (num4 w' + 4)).take 4).length = 4 := by rw [List.length_take, List.length_drop]; omega
  have hYg : ∀ i, i < 4 → ((w'.drop (num4 w' + 4)).take 4)[i]? = w'[num4 w' + 4 + i]? := fun i hi => by rw [List.getElem?_take, if_pos hi, List.getElem?_drop]
  refine ⟨_, _, _, rfl, fun m h' i => ∃ (j : Nat) (s : Bool), i = j ∧ j ≤ 4 ∧ m = 4 - j ∧ (s = false ↔ X.take j = ((w'.drop (num4 w' + 4)).take 4).take j) ∧ St F h h' [BV a32 4 4 X, BV al w'.length cl w', bytE.L o ps.length co ps, A.blk p #[.slice none 0 0, .bool s] 121], ⟨_, 0, false, rfl, by omega, rfl, by simp, k⟩, ?_⟩
  clear k k2
  rintro m h35 _ i ⟨j, s, rfl, hj, rfl, hsd, k⟩
  refine cond_split (fun hc => ?_) (fun hc => ?_)
  · have hj4 : j < 4 := by
      have : (j : Int) < 4 := of_decide_eq_true hc
      omega
    refine ⟨fun h' => ∃ s' : Bool, (s' = false ↔ X.take (j + 1) = ((w'.drop (num4 w' + 4)).take 4).take (j + 1)) ∧ St F h h' [BV a32 4 4 X, BV al w'.length cl w', bytE.L o ps.length co ps, A.blk p #[.slice none 0 0, .bool s'] 121], ?_, ?_⟩
    rotate_left
    · rintro h46 _ ⟨s', h1, k⟩
      exact ⟨4 - (j + 1), by omega, j + 1, s', wrap_nat hj4 (by omega), hj4, rfl, h1, k⟩
    refine (k.sl (a := a32)).one (f := byteV) hXl (by omega) (by omega) fun ad x hx hcx => ⟨_, hcx, ?_⟩
    have ej : IntKind.i64.wrap (((num4 w' + 4 : Nat) : Int) + (j : Int)) = ((num4 w' + 4 + j : Nat) : Int) := by rw [wrap_id (by omega) (by omega)]; omega
    rw [ej]
    refine (k.sl (a := al)).one (f := byteV) rfl (by omega) (by omega) fun ad y hy hcy => ⟨_, hcy, ?_⟩
    rw [Int.toNat_natCast] at hx hy
    have hy2 : ((w'.drop (num4 w' + 4)).take 4)[j]? = some y := by rw [hYg j hj4, hy]
    rw [take_next hx, take_next hy2, ne_u8]
    refine cond_split (fun hd => ?_) (fun hd => ?_)
    · have hd := of_decide_eq_true hd
      refine VSome.mk (k.vst (Nat.le_of_ble_eq_true (by rfl)) fun h45 k => ⟨true, ?_, k⟩)
      constructor
      · intro h; cases h
      · intro h
        have := List.append_inj' h rfl
        exact absurd (by simpa using this.2) hd
    · have hd : x = y := by simpa using hd
      subst hd
      refine ⟨s, ?_, k⟩
      rw [hsd]
      constructor
      · intro h; rw [h]
      · intro h
        exact (List.append_inj' h rfl).1
  have hj4 : j = 4 := by
    have : ¬ (j : Int) < 4 := of_decide_eq_false hc
    omega
  subst hj4
  rw [List.take_of_length_le (by omega), List.take_of_length_le (by omega)] at hsd
  refine VSome.mk ⟨_, k.rd (by rfl), ?_⟩
  cases hss : s
  rotate_left
  · subst hss
    have hne : be4 (adl (w'.take (num4 w' + 4))) ≠ (w'.drop (num4 w' + 4)).take 4 := fun h => by
      rw [hX] at h
      have := hsd.2 h
      cases this
    have hm : nextF w' = .bad := by unfold nextF; rw [if_neg h4, if_neg hm5, if_neg h8, if_pos hne]
    rw [cut_bad hm, List.append_nil] at hcut
    exact cond_true rfl (badf hcut k.drop)
  subst hss
  have heq : be4 (adl (w'.take (num4 w' + 4))) = (w'.drop (num4 w' + 4)).take 4 := by rw [hX]; exact hsd.1 rfl
  have hm : nextF w' = .got ((w'.drop 4).take (num4 w')) (w'.drop (num4 w' + 8)) := by unfold nextF; rw [if_neg h4, if_neg hm5, if_neg h8, if_neg (by simpa using heq)]
  rw [cut_got hm] at hcut
  refine cond_false rfl ?_
  refine cutA (bs := w') rfl (lo := 4) (hi := num4 w' + 4) (mx := cl) rfl rfl rfl (by omega) (by omega) (by omega) (Nat.le_refl _) fun a50 r50 l50 => ?_
  have ed : (w'.take (num4 w' + 4)).drop 4 = (w'.drop 4).take (num4 w') := by rw [List.drop_take]; congr 1
  rw [ed] at r50 l50
  refine copy_bytes k (r50 _ _ (k.sl (a := al)).ro).sl l50 (by omega) fun a53 c53 h52 k => ⟨_, _, _, rfl, k.vnew fun b54 h55 k => ?_⟩
  have el2 : num4 w' + 4 - 4 = ((w'.drop 4).take (num4 w')).length := by rw [l50]
  rw [el2] at k
  have k := k.sel 6 [0, 1, 4, 3, 5, 2] rfl (by decide) (L' := [A.blk b54 (bytE.cells ⟨a53, c53, ((w'.drop 4).take (num4 w'))⟩).toArray bytE.e, bytE.own ⟨a53, c53, ((w'.drop 4).take (num4 w'))⟩, bytE.L o ps.length co ps, BV al w'.length cl w', A.blk p #[.slice none 0 0, .bool false] 121, BV a32 4 4 X]) (by rfl)
  have hps2 := congrArg (fun x => x.1.length) hcut
  simp only [List.length_append, List.length_cons] at hps2
  refine El.app (E := bytE) T48 k (by omega) fun o' co' h57 k => ⟨_, _, _, rfl, ?_⟩
  refine k.pull1.cut (lo := num4 w' + 8) (hi := w'.length) (mx := cl) rfl rfl rfl (by omega) (Nat.le_refl _) (by omega) (Nat.le_refl _) fun a59 k => ?_
  rw [bytesV_cut, List.take_of_length_le (Nat.le_refl _)] at k
  have el : w'.length - (num4 w' + 8) = (w'.drop (num4 w' + 8)).length := by rw [List.length_drop]
  rw [el] at k ⊢
  refine ⟨_, ?_, ps ++ [((w'.drop 4).take (num4 w'))], w'.drop (num4 w' + 8), by simp, rfl, rfl, by rw [List.length_drop]; omega, by rw [List.length_append]; simp only [List.length_singleton]; omega, by rw [hcut, List.append_assoc]; rfl, by rw [List.length_append]; exact k.only3⟩
  rw [List.length_drop]; omega
end Go.Proofs.YtgdgebmlcgohhaaDoor.F
