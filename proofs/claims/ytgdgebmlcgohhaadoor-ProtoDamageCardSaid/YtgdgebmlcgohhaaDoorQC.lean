/- Package proto: a request is written. Conditions: none. -/
import Derived.Test.YtgdgebmlcgohhaaDoorQB
namespace Go.Proofs.YtgdgebmlcgohhaaDoor.F
open Go Go.VC Go.Proofs
set_option linter.unusedSimpArgs false
set_option linter.unusedVariables false
set_option maxRecDepth 100000
attribute [local irreducible] CallsH RunsTo PureTo

variable {S F G : Nat → Prop} {h0 h h1 : Heap} {L R L' : List A} {a b a1 a2 na ea : Option Addr} {l c l1 c1 l2 c2 p t nc ec : Nat} {bs cs bs1 bs2 : List UInt8} {err e1 : Int} {v : Val} {bad bad1 : Bool} {q q2 : Rq}
theorem speaksK {n : Int} {i : Nat} (hs : Spk none_ h) (hk : known n) : CallsH Tryd.prog 26 #[.int .i64 n, .int .i64 (i : Int)] h (fun v h' => v = .bool (decide (i ∈ spk n)) ∧ h' = h) := by
  have h1 := hk.1
  have h2 := hk.2
  obtain ⟨m, rfl⟩ : ∃ m : Nat, n = m := ⟨n.toNat, by omega⟩
  exact speaks_spec hs (by omega)
theorem Spk.oneK (k : Spk none_ h) (m : Ext h h1) {n : Int} (hk : known n) {K : Addr → Prop} (q : ∀ ad a c, cellH h1 ad = some (.slice a (spk n).length c) → Ro none_ h a ((spk n).map fun i : Nat => Value.int .i64 (i : Int)) → K ad) : VIdx (some ⟨0, 0, none⟩) 13 n 1 K := by
  have h1 := hk.1
  have h2 := hk.2
  obtain ⟨i, rfl⟩ : ∃ m : Nat, n = m := ⟨n.toNat, by omega⟩
  exact k.one (by omega) fun a c hc r => q _ a c (cellH_mod hc m id) r
theorem spk_lt {k : Int} {i : Nat} (h : i ∈ spk k) : i < 4 := by
  rcases spk_cases k with e | e | e | e | e | e | e <;> rw [e] at h <;> simp at h <;> omega
theorem spk_len (k : Int) (q : Rq) : ((spk k).flatMap fun i => putF i q).length ≤ (putF 0 q).length + (putF 1 q).length + (putF 2 q).length + (putF 3 q).length := by
  rcases spk_cases k with e | e | e | e | e | e | e <;> rw [e] <;> simp <;> omega
theorem take_flat_le {α β : Type} (f : α → List β) (xs : List α) (j : Nat) : ((xs.take j).flatMap f).length ≤ (xs.flatMap f).length := by
  conv => rhs; rw [← List.take_append_drop j xs, List.flatMap_append, List.length_append]
  omega
theorem faultEs_first : ∀ es : List Ev, faultEs es = firstE faultE es
  | [] => rfl
  | e :: es => by
    unfold faultEs firstE orE
    rw [faultEs_first es]
theorem faultF_first (k : Int) (q : Rq) : faultF (spk k) q = firstE (fun i => fltF i q) (spk k) := by
  unfold faultF
  rcases spk_cases k with e | e | e | e | e | e | e <;> rw [e] <;> simp [firstE, fltF, orE_zero, zero_orE, faultEs_first]
theorem ask_done (hk : known q.k) (hs : stray q = false) : askR q = doneR (putQ q) (firstE (fun i => fltF i q) (spk q.k)) := by
  unfold askR doneR
  rw [if_neg (by simpa using hk), if_neg (by simp [hs]), faultF_first]
abbrev aggQ (q : Rq) (na : Option Addr) (nc : Nat) (ea : Option Addr) (ec : Nat) : Value := .agg (rqV q na nc ea ec).toArray
theorem ask_spec (hw : Wd none_ h) (hs : Spk none_ h) (ok : RqOk q) (r : RqRo none_ h q na ea) : CallsH Tryd.prog 8 #[aggQ q na nc ea ec] h
    (fun v h' => ∃ x c, v = .tuple #[.slice x (askR q).1.length c, .int .i64 (askR q).2] ∧ St none_ h h' [BV x (askR q).1.length c (askR q).1]) := by
  refine vf8 _ _ _ _ _ _ _ _ _ _ h _ ?_
  unfold F8
  have hbig := ok.big
  have k := St.fresh h
  refine k.vnew fun b1 h2 k => ⟨_, k.rd (by rfl), ?_⟩
  have k : St none_ h h2 [RqB b1 q na nc ea ec] := k
  refine CallsH.mono (known_spec q.k) ?_
  rintro _ _ ⟨rfl, rfl⟩
  refine ⟨_, rfl, cond_split (fun hc => ?_) (fun hc => ?_)⟩
  · have hc : ¬ known q.k := by simpa using hc
    have e : askR q = ([], 301) := if_pos hc
    rw [e]; exact ⟨none, 0, rfl, k.drop.vnil 5 (sz := 1) (by omega)⟩
  have hk : known q.k := by simpa using hc
  clear hc
  refine CallsH.mono fields_spec ?_
  rintro _ h8 ⟨rfl, m⟩
  have k := k.next m
  clear m
  refine ⟨_, _, _, _, _, _, _, _, _, _, _, _, rfl, k.vnew fun b21 h22 k => k.vall (by rfl) (by rfl) fun h23 k => ⟨_, k.rd (by rfl), _, k.rd (by rfl), _, k.rd (by rfl), _, k.rd (by rfl), _, k.rd (by rfl), _, k.rd (by rfl), _, k.rd (by rfl), _, k.rd (by rfl), _, k.rd (by rfl), _, k.rd (by rfl), _, k.rd (by rfl), _, k.rd (by rfl), ?_⟩⟩
  refine ⟨fun m h' y ly cy z i => ∃ j : Nat, i = j ∧ j ≤ 4 ∧ m = 4 - j ∧ St none_ h h' [A.blk b21 fldV.toArray 76, RqB b1 q na nc ea ec] ∧ ∀ i, i < j → i ∈ spk q.k ∨ empF i q = true, ⟨_, 0, rfl, by omega, rfl, k, fun i hi => by omega⟩, ?_⟩
  clear k
  rintro m h38 _ y ly cy z i ⟨j, rfl, hj, rfl, k, he⟩
  refine cond_split (fun hc => ?_) (fun hc => ?_)
  · have hj4 : j < 4 := by
      have : (j : Int) < 4 := of_decide_eq_true hc
      omega
    refine index76 hj4 ⟨_, _, _, rfl, k.vnew fun b48 h49 k => k.vall (by rfl) (by rfl) fun h50 k => ⟨_, k.rd (by rfl), ?_⟩⟩
    refine CallsH.mono (speaksK (hs.in k) hk) ?_
    rintro _ _ ⟨rfl, rfl⟩
    refine ⟨_, rfl, cond_split (fun hc => ?_) (fun hc => ?_)⟩
    · have hc : j ∉ spk q.k := by simpa using hc
      refine ⟨_, k.rd (by rfl), inv_bool hj4 (CallsH.mono (emp_spec (q := q) (na := na) (nc := nc) (ea := ea) (ec := ec) (b1 := b1) hj4 k) ?_)⟩
      rintro _ _ ⟨rfl, rfl⟩
      refine ⟨_, rfl, _, rfl, cond_split (fun hc2 => ?_) (fun hc2 => ?_)⟩
      · have hc2 : empF j q = false := by simpa using hc2
        have e : askR q = ([], 301) := by
          unfold askR
          rw [if_neg (by simpa using hk), if_pos (stray_iff.2 ⟨j, hj4, hc, hc2⟩)]
        rw [e]; exact ⟨none, 0, rfl, k.drop.drop.drop.vnil 5 (sz := 1) (by omega)⟩
      · have hc2 : empF j q = true := by simpa using hc2
        refine ⟨4 - (j + 1), by omega, j + 1, wrap_nat hj4 (by omega), by omega, rfl, k.drop, fun i hi => ?_⟩
        by_cases hij : i = j
        · subst hij; exact .inr hc2
        · exact he i (by omega)
    · have hc : j ∈ spk q.k := by simpa using hc
      refine ⟨4 - (j + 1), by omega, j + 1, wrap_nat hj4 (by omega), by omega, rfl, k.drop, fun i hi => ?_⟩
      by_cases hij : i = j
      · subst hij; exact .inl hc
      · exact he i (by omega)
  have hj4 : j = 4 := by
    have : ¬ (j : Int) < 4 := of_decide_eq_false hc
    omega
  subst hj4
  clear hc hj
  have hst : stray q = false := by
    rw [Bool.eq_false_iff]
    intro hst
    obtain ⟨i, hi, hn, h3⟩ := stray_iff.1 hst
    rcases he i hi with h4 | h4
    · exact hn h4
    · rw [h3] at h4; cases h4
  rw [ask_done hk hst]
  have hk1 := hk.1
  have hk2 := hk.2
  have eb : (.int .u8 (IntKind.u8.wrap q.k) : Value) = byteV (UInt8.ofNat q.k.toNat) := by
    rw [byteV_of, wrap_u8]; congr 1; omega
  refine ⟨_, k.rd (by rfl), ?_⟩
  rw [eb]
  refine k.vnew fun b60 h61 k => ⟨_, k.rd (by rfl), ?_⟩
  have k := k.blkvec (n := 1) (sz := 1) rfl (by omega) (by omega)
  obtain ⟨F', G, kF, kG, d, hF, back⟩ := k.frameA
  refine CallsH.mono (four_spec q.id kF (by omega)) ?_
  rintro _ h64 ⟨a65, c65, rfl, k2⟩
  have k := back k2
  clear back kF kG d hF
  refine ⟨_, _, _, rfl, k.vnew fun b66 h67 k => ⟨_, k.rd (by rfl), ?_⟩⟩
  have k : St none_ h h67 (A.blk b66 #[.slice a65 ([UInt8.ofNat q.k.toNat] ++ be4 q.id).length c65, .int .i64 0] 83 :: BV a65 ([UInt8.ofNat q.k.toNat] ++ be4 q.id).length c65 ([UInt8.ofNat q.k.toNat] ++ be4 q.id) :: [A.blk b21 fldV.toArray 76, RqB b1 q na nc ea ec]) := k
  have k := WB.close k
  have hhl : ([UInt8.ofNat q.k.toNat] ++ be4 q.id).length = 5 := rfl
  generalize hH : [UInt8.ofNat q.k.toNat] ++ be4 q.id = H at *
  refine Spk.oneK hs k.ext hk fun ad a70 c70 hc70 r70 => ⟨_, _, _, hc70, ?_⟩
  refine ⟨fun m h' y => ∃ j : Nat, y = j ∧ j ≤ (spk q.k).length ∧ m = (spk q.k).length - j ∧ St none_ h h' [WB b66 (H ++ ((spk q.k).take j).flatMap fun i => putF i q) (firstE (fun i => fltF i q) ((spk q.k).take j)), RqB b1 q na nc ea ec, A.blk b21 fldV.toArray 76], ⟨_, 0, rfl, by omega, rfl, ?_⟩, ?_⟩
  · rw [List.take_zero, List.flatMap_nil, List.append_nil]
    exact k.sel 3 [0, 2, 1] rfl (by decide) (by rfl)
  clear k
  rintro m h73 _ y ⟨j, rfl, hj, rfl, k⟩
  have hsl := spk_len q.k q
  have hL4 : (spk q.k).length ≤ 2 := by rcases spk_cases q.k with e | e | e | e | e | e | e <;> rw [e] <;> simp
  refine cond_split (fun hc => ?_) (fun hc => ?_)
  · have hjl : j < (spk q.k).length := Int.ofNat_lt.1 (of_decide_eq_true hc)
    refine (r70.in k).sl.one (f := fun i : Nat => Value.int .i64 (i : Int)) rfl (by omega) (by omega) fun ad z hz hcz => ⟨_, hcz, ?_⟩
    rw [Int.toNat_natCast] at hz
    have hz4 := spk_lt (List.mem_of_getElem? hz)
    refine ⟨by omega, by omega, VSome.mk ?_⟩
    rw [Int.toNat_natCast, VC.add_plain]
    refine ⟨fnV (fW z), k.rd ?_, ?_⟩
    · match z, hz4 with
      | 0, _ => rfl
      | 1, _ => rfl
      | 2, _ => rfl
      | 3, _ => rfl
    have hfl := take_flat_le (fun i => putF i q) (spk q.k) j
    obtain ⟨F', G, kF, kG, d, hF, back⟩ := k.frameB
    refine inv_none (enW hz4) (CallsH.mono (putW_step hz4 (hw.at k.ext hF) ok (r.at k.ext hF) kF (by rw [List.length_append]; omega)) ?_)
    rintro _ h82 ⟨rfl, k2⟩
    have k := back k2
    refine ⟨rfl, (spk q.k).length - (j + 1), by omega, j + 1, wrap_nat hjl (by omega), hjl, rfl, ?_⟩
    rw [flat_next hz, firstE_next hz, ← List.append_assoc]
    exact k
  · have hjl : j = (spk q.k).length := by
      have : ¬ (j : Int) < (spk q.k).length := of_decide_eq_false hc
      omega
    subst hjl
    rw [List.take_of_length_le (Nat.le_refl _)] at k
    have e : H ++ ((spk q.k).flatMap fun i => putF i q) = putQ q := by unfold putQ; rw [← hH, List.append_assoc]
    rw [e] at k
    obtain ⟨F', G, kF, kG, d, hF, back⟩ := k.frameA
    refine CallsH.mono (doneW_spec kF) ?_
    rintro _ h84 ⟨x, c, rfl, k2⟩
    have k := (back k2).only
    exact ⟨_, _, _, _, rfl, x, c, rfl, k⟩
end Go.Proofs.YtgdgebmlcgohhaaDoor.F
