/- The document writes a request. Conditions: none. -/
import Derived.Test.YtgdgebmlcgohhaaGreatDoorDE
namespace Go.Proofs.YtgdgebmlcgohhaaGreatDoor.F
open Go Go.VC Go.Proofs
set_option linter.unusedSimpArgs false
set_option linter.unusedVariables false
set_option maxRecDepth 100000
attribute [local irreducible] CallsH RunsTo PureTo

variable {S F G : Nat → Prop} {h0 h h1 : Heap} {L R L' : List A} {a b a1 a2 x na ea : Option Addr} {l c l1 c1 l2 c2 p t b1 lx cx nc ec : Nat} {bs cs bs1 bs2 w xs : List UInt8} {err e1 : Int} {v : Val} {bad bad1 bad2 : Bool} {q : Rq}
theorem skipS {b : Bool} {s : ByteArray} {ad : Addr} {c : ByteArray → Bool} {R X : Prop} (hrd : cellH h ad = some (.string s)) (hR : b = false → c s = true → R) (hX : (b = true ∨ c s = false) → X) :
    cond (!b) (∃ s12 : ByteArray, cellH h ad = some (.string s12) ∧ cond (c s12) R X) X := by
  cases b
  · refine ⟨s, hrd, ?_⟩
    cases hc : c s
    · exact hX (.inr hc)
    · exact hR rfl hc
  · exact hX (.inl rfl)
theorem skipL {b : Bool} {a : Option Addr} {l n : Nat} {ad : Addr} {c : Nat → Bool} {R X : Prop} (hrd : cellH h ad = some (.slice a l n)) (hR : b = false → c l = true → R) (hX : (b = true ∨ c l = false) → X) :
    cond (!b) (∃ (a14 : Option Addr) (la14 ca14 : Nat), cellH h ad = some (.slice a14 la14 ca14) ∧ cond (c la14) R X) X := by
  cases b
  · refine ⟨a, l, n, hrd, ?_⟩
    cases hc : c l
    · exact hX (.inr hc)
    · exact hR rfl hc
  · exact hX (.inl rfl)
def pf (i : Nat) (q : Rq) : Bytes := if sp i q.k = true then putF i q else []
theorem pf_yes {i : Nat} (h : sp i q.k = true) : pf i q = putF i q := if_pos h
theorem pf_no {i : Nat} (h : sp i q.k = false) : pf i q = [] := if_neg (by rw [h]; simp)
theorem pf_all (q : Rq) : (spk q.k).flatMap (fun i => putF i q) = pf 0 q ++ (pf 1 q ++ (pf 2 q ++ pf 3 q)) := by
  rcases spk_cases q.k with e | e | e | e | e | e | e
  · rw [pf_no (sp_of e 0), pf_yes (sp_of e 1), pf_no (sp_of e 2), pf_no (sp_of e 3), e]; simp
  · rw [pf_yes (sp_of e 0), pf_yes (sp_of e 1), pf_no (sp_of e 2), pf_no (sp_of e 3), e]; simp
  · rw [pf_yes (sp_of e 0), pf_no (sp_of e 1), pf_no (sp_of e 2), pf_no (sp_of e 3), e]; simp
  · rw [pf_no (sp_of e 0), pf_no (sp_of e 1), pf_no (sp_of e 2), pf_yes (sp_of e 3), e]; simp
  · rw [pf_no (sp_of e 0), pf_no (sp_of e 1), pf_yes (sp_of e 2), pf_no (sp_of e 3), e]; simp
  · rw [pf_no (sp_of e 0), pf_no (sp_of e 1), pf_yes (sp_of e 2), pf_yes (sp_of e 3), e]; simp
  · rw [pf_no (sp_of e 0), pf_no (sp_of e 1), pf_no (sp_of e 2), pf_no (sp_of e 3), e]; simp
theorem fault_at {es : List Ev} : ∀ {j : Nat} {x : Ev}, es[j]? = some x → faultEs (es.take j) = 0 → faultE x ≠ 0 → faultEs es = faultE x := by
  induction es with
  | nil => intro j x h; simp at h
  | cons e es ih =>
    intro j x h h0 hx
    cases j with
    | zero =>
      simp at h; subst h
      unfold faultEs
      rw [if_neg hx]
    | succ j =>
      simp only [List.take_succ_cons, faultEs] at h0 ⊢
      split at h0
      · rename_i he
        rw [if_pos he]
        exact ih (by simpa using h) h0 hx
      · rename_i he; exact absurd h0 he
set_option maxHeartbeats 2000000 in
theorem dask_spec (ok : RqOk q) (r : RqRo none_ h q na ea) : CallsH Tryz.prog 29 #[aggQ q na nc ea ec] h
    (fun v h' => ∃ x c, v = .tuple #[.slice x (askR q).1.length c, .int .i64 (askR q).2] ∧ St none_ h h' [BV x (askR q).1.length c (askR q).1]) := by
  refine vf29 _ _ _ _ _ _ _ _ _ _ h _ ?_
  unfold F29
  have hbig := ok.big
  have k := St.fresh h
  refine k.vnew fun b1 h2 k => ⟨_, k.rd (by rfl), ?_⟩
  have k : St none_ h h2 [RqB b1 q na nc ea ec] := k
  refine CallsH.mono (dspeaks_spec q.k) ?_
  rintro _ _ ⟨rfl, rfl⟩
  have out : ∀ {h' : Heap} (e : Int), Ext h h' → askR q = ([], e) → ∃ x c, (Value.tuple #[.slice none 0 0, .int .i64 e]) = .tuple #[.slice x (askR q).1.length c, .int .i64 (askR q).2] ∧ St none_ h h' [BV x (askR q).1.length c (askR q).1] := fun e m he => by
    rw [he]; exact ⟨none, 0, rfl, ((St.fresh h).next m).vnil 5 (sz := 1) (by omega)⟩
  refine ⟨_, _, _, _, rfl, _, k.rd (by rfl), cond_split (fun hc => ?_) (fun hc => ?_)⟩
  · have hc : q.k < 1 := of_decide_eq_true hc
    exact out 301 k.ext (if_pos (fun hk => by unfold known at hk; omega))
  have h1 : ¬ q.k < 1 := of_decide_eq_false hc
  refine ⟨_, k.rd (by rfl), cond_split (fun hc => ?_) (fun hc => ?_)⟩
  · have hc : q.k > 12 := of_decide_eq_true hc
    exact out 301 k.ext (if_pos (fun hk => by unfold known at hk; omega))
  have h12 : ¬ q.k > 12 := of_decide_eq_false hc
  have hk : known q.k := by unfold known; omega
  have str : ∀ i, i < 4 → sp i q.k = false → empF i q = false → askR q = ([], 301) := fun i hi hs he => by
    unfold askR
    rw [if_neg (by simpa using hk), if_pos (stray_iff.2 ⟨i, hi, by unfold sp at hs; simpa using hs, he⟩)]
  have es : ∀ s : Bytes, strEq (bA s) (ByteArray.mk #[]) = decide (s = []) := eqNil
  refine skipS (s := bA q.name) (c := fun s => !strEq s (ByteArray.mk #[])) (k.rd (by rfl)) (fun hs hc => ?_) (fun c0 => ?_)
  · exact out 301 k.ext (str 0 (by omega) hs (by rw [es] at hc; simpa [empF] using hc))
  refine skipS (s := bA q.text) (c := fun s => !strEq s (ByteArray.mk #[])) (k.rd (by rfl)) (fun hs hc => ?_) (fun c1 => ?_)
  · exact out 301 k.ext (str 1 (by omega) hs (by rw [es] at hc; simpa [empF] using hc))
  refine skipL (a := na) (l := q.names.length) (n := nc) (c := fun n => decide ((n : Int) > 0)) (k.rd (by rfl)) (fun hs hc => ?_) (fun c2 => ?_)
  · refine out 301 k.ext (str 2 (by omega) hs ?_)
    have hc : (q.names.length : Int) > 0 := of_decide_eq_true hc
    show decide (q.names = []) = false
    exact decide_eq_false fun e => by rw [e] at hc; simp at hc
  refine skipL (a := ea) (l := q.evs.length) (n := ec) (c := fun n => decide ((n : Int) > 0)) (k.rd (by rfl)) (fun hs hc => ?_) (fun c3 => ?_)
  · refine out 301 k.ext (str 3 (by omega) hs ?_)
    have hc : (q.evs.length : Int) > 0 := of_decide_eq_true hc
    show decide (q.evs = []) = false
    exact decide_eq_false fun e => by rw [e] at hc; simp at hc
  have hst : stray q = false := by
    rw [Bool.eq_false_iff]
    intro hst
    obtain ⟨i, hi, hn, h3⟩ := stray_iff.1 hst
    have hsi : sp i q.k = false := by unfold sp; simpa using hn
    match i, hi with
    | 0, _ => rw [hsi, es] at c0; simp [empF] at h3; simp [h3] at c0
    | 1, _ => rw [hsi, es] at c1; simp [empF] at h3; simp [h3] at c1
    | 2, _ =>
      rw [hsi] at c2
      simp [empF] at h3
      have : (q.names.length : Int) > 0 := by have := List.length_pos_iff.2 h3; omega
      rw [decide_eq_true this] at c2; simp at c2
    | 3, _ =>
      rw [hsi] at c3
      simp [empF] at h3
      have : (q.evs.length : Int) > 0 := by have := List.length_pos_iff.2 h3; omega
      rw [decide_eq_true this] at c3; simp at c3
  clear c0 c1 c2 c3 str h1 h12 hc es
  have eR : askR q = if faultF (spk q.k) q ≠ 0 then ([], faultF (spk q.k) q) else if 65528 < (putQ q).length then ([], 2) else (putQ q, 0) := by
    unfold askR
    rw [if_neg (by simpa using hk), if_neg (by rw [hst]; simp)]
  have eb : (.int .u8 (IntKind.u8.wrap q.k) : Value) = byteV (UInt8.ofNat q.k.toNat) := by
    have h1 := hk.1
    rw [byteV_of, wrap_u8]; congr 1; omega
  have hid := ok.id
  unfold G29
  refine ⟨_, k.rd (by rfl), ?_⟩
  rw [eb]
  refine k.vnew fun b17 h18 k => ⟨_, k.rd (by rfl), ?_⟩
  rw [wrap_id (by omega) (by omega)]
  refine CallsH.mono (dfour_spec (n := q.id) ok.id) ?_
  rintro _ h21 ⟨a22, rfl, kd⟩
  have k := (k.add1 kd).pull1
  have k := k.blkvec (n := 1) (sz := 1) rfl (by omega) (by omega)
  have k : St none_ h h21 [BV (some ⟨b17, 0, none⟩) 1 1 [UInt8.ofNat q.k.toNat], BV a22 4 4 (be4 q.id), RqB b1 q na nc ea ec] := k
  refine ⟨_, _, _, rfl, app_bytes (s := be4 q.id) k (k.sl (a := a22)) (by show 1 + 4 ≤ 140737488355328; omega) fun a25 c25 h24 k => ⟨_, _, _, rfl, ?_⟩⟩
  have k := (SW.close (w := [UInt8.ofNat q.k.toNat] ++ be4 q.id) (.refl _) rfl k).sel 3 [0, 2, 1] rfl (by decide) (L' := [SW ([UInt8.ofNat q.k.toNat] ++ be4 q.id) a25 (1 + (be4 q.id).length) c25, RqB b1 q na nc ea ec, _]) (by rfl)
  have k := k.only2
  have eW : ([UInt8.ofNat q.k.toNat] ++ be4 q.id) ++ pf 0 q ++ pf 1 q ++ pf 2 q ++ pf 3 q = putQ q := by
    unfold putQ
    rw [pf_all]
    simp only [List.append_assoc]
  generalize hW : ([UInt8.ofNat q.k.toNat] ++ be4 q.id) = W at *
  have hWl : W.length = 5 := by rw [← hW]; rfl
  have pfl : ∀ i, (pf i q).length ≤ (putF i q).length := fun i => by unfold pf; split; (· exact Nat.le_refl _); (· exact Nat.zero_le _)
  have p0 := pfl 0
  have p1 := pfl 1
  have p2 := pfl 2
  refine ⟨fun h' a' l' c' => St none_ h h' [SW (W ++ pf 0 q) a' l' c', RqB b1 q na nc ea ec], ?_, ?_⟩
  · cases hs : sp 0 q.k
    · refine cond_false rfl ?_
      rw [pf_no hs, List.append_nil]; exact k
    · refine cond_true rfl ⟨_, k.rd (by rfl), tex_go k (show W.length + (putF 0 q).length ≤ _ by omega) fun _ _ _ _ k => ?_⟩
      rw [pf_yes hs]; exact k
  clear k
  rintro h31 _ a31 l31 c31 k
  refine ⟨fun h' a' l' c' => St none_ h h' [SW (W ++ pf 0 q ++ pf 1 q) a' l' c', RqB b1 q na nc ea ec], ?_, ?_⟩
  · cases hs : sp 1 q.k
    · refine cond_false rfl ?_
      rw [pf_no hs, List.append_nil]; exact k
    · refine cond_true rfl ⟨_, k.rd (by rfl), tex_go k (show (W ++ pf 0 q).length + (putF 1 q).length ≤ _ by rw [List.length_append]; omega) fun _ _ _ _ k => ?_⟩
      rw [pf_yes hs]; exact k
  clear k
  rintro h39 _ a39 l39 c39 k
  refine ⟨fun h' a' l' c' => St none_ h h' [SW (W ++ pf 0 q ++ pf 1 q ++ pf 2 q) a' l' c', RqB b1 q na nc ea ec], ?_, ?_⟩
  · cases hs : sp 2 q.k
    · refine cond_false rfl ?_
      rw [pf_no hs, List.append_nil]; exact k
    · refine cond_true rfl ⟨_, _, _, k.rd (by rfl), texs_go k r.names (show (W ++ pf 0 q ++ pf 1 q).length + (putF 2 q).length ≤ _ by rw [List.length_append, List.length_append]; omega) fun _ _ _ _ k => ?_⟩
      rw [pf_yes hs]; exact k
  clear k
  rintro h47 _ a47 l47 c47 k
  have hV : (W ++ pf 0 q ++ pf 1 q ++ pf 2 q).length + (putF 3 q).length ≤ 140737488300000 := by simp only [List.length_append]; omega
  generalize W ++ pf 0 q ++ pf 1 q ++ pf 2 q = V at *
  refine ⟨fun h' _ _ _ _ a' l' c' => faultF (spk q.k) q = 0 ∧ St none_ h h' [SW (putQ q) a' l' c', RqB b1 q na nc ea ec], ?_, ?_⟩
  · cases hs : sp 3 q.k
    · refine cond_false rfl ⟨?_, ?_⟩
      · unfold faultF
        unfold sp at hs
        rw [if_neg (by simpa using hs)]
      · rw [← eW, pf_no hs, List.append_nil]; exact k
    · have eF : faultF (spk q.k) q = faultEs q.evs := by
        unfold faultF
        unfold sp at hs
        rw [if_pos (by simpa using hs)]
      have hp : (putF 3 q).length = (putN q.evs.length).length + (q.evs.flatMap encF).length := by
        show (putL encF q.evs).length = _
        unfold putL; rw [List.length_append]
      have hel := ok.evs
      refine cond_true rfl ⟨_, _, _, k.rd (by rfl), num_go k ⟨by omega, by omega⟩ (by omega) fun a57 l57 c57 h56 k => ?_⟩
      have eV : putQ q = V ++ putN q.evs.length ++ q.evs.flatMap encF := by
        rw [← eW, pf_yes hs]
        show V ++ putL encF q.evs = _
        unfold putL; rw [List.append_assoc]
      refine ⟨fun m h' _ _ _ _ b ll cc i => ∃ j : Nat, i = j ∧ j ≤ q.evs.length ∧ m = q.evs.length - j ∧ faultEs (q.evs.take j) = 0 ∧ St none_ h h' [SW (V ++ putN q.evs.length ++ (q.evs.take j).flatMap encF) b ll cc, RqB b1 q na nc ea ec],
        ⟨_, 0, rfl, Nat.zero_le _, rfl, rfl, by rw [List.take_zero, List.flatMap_nil, List.append_nil]; exact k⟩, ?_⟩
      clear k
      rintro m h60 _ y ly cy y2 b ll cc i ⟨j, rfl, hj, rfl, hf, k⟩
      refine ⟨_, _, _, k.rd (by rfl), cond_split (fun hc => ?_) (fun hc => ?_)⟩
      · have hjl : j < q.evs.length := Int.ofNat_lt.1 (of_decide_eq_true hc)
        refine ⟨_, _, _, k.rd (by rfl), ?_⟩
        refine r.evs.one k.ext (by omega) (by omega) fun ad s hs hcz hrd => ?_
        rw [Int.toNat_natCast] at hs
        have hsm := List.mem_of_getElem? hs
        have hle : ((q.evs.take j).flatMap encF).length + (encF s.e).length ≤ (q.evs.flatMap encF).length := flat_take_le (f := encF) hs
        refine ⟨_, hcz 0 _ rfl, _, hcz 1 _ rfl, _, _, _, hcz 2 _ rfl, ?_⟩
        refine CallsH.mono (rencode_spec (e := s.e) ⟨(hrd.mod k.ext).sl.ro, rfl, (ok.rng _ hsm).1⟩ (ok.rng _ hsm).2) ?_
        rintro _ h74 ⟨a75, c75, rfl, kd⟩
        have k := (k.add1 kd).pull1
        refine ⟨_, _, _, _, rfl, cond_split (fun hc => ?_) (fun hc => ?_)⟩
        · have hc : faultE s.e ≠ 0 := by simpa using hc
          have ef : faultF (spk q.k) q = faultE s.e := by rw [eF]; exact fault_at hs hf hc
          exact out _ k.ext (by rw [eR, ef, if_pos hc])
        · have hc : faultE s.e = 0 := by simpa using hc
          refine put_go k rfl (by rw [List.length_append, List.length_append]; omega) fun a' l' c' h' k => ⟨q.evs.length - (j + 1), by omega, j + 1, wrap_nat hjl (by omega), hjl, rfl, ?_, ?_⟩
          · rw [fault_take hs hf]; exact hc
          · rw [flat_next hs, ← List.append_assoc]; exact k
      · have hjl : j = q.evs.length := by
          have : ¬ (j : Int) < q.evs.length := of_decide_eq_false hc
          omega
        subst hjl
        rw [List.take_of_length_le (Nat.le_refl _)] at k hf
        refine ⟨by rw [eF]; exact hf, ?_⟩
        rw [eV]; exact k
  clear k
  rintro h80 _ y ly cy y2 a84 l84 c84 ⟨hf, k⟩
  obtain ⟨bb, hs, hl, k⟩ := SW.open k
  have hlen := hs.len
  rw [eR, hf, if_neg (by simp)]
  refine cond_split (fun hc => ?_) (fun hc => ?_)
  · have hc : 65528 < l84 := by
      have : (l84 : Int) > 65528 := of_decide_eq_true hc
      omega
    rw [if_pos (by omega)]
    exact ⟨none, 0, rfl, ((St.fresh h).next k.ext).vnil 5 (sz := 1) (by omega)⟩
  · have hc : ¬ 65528 < l84 := by
      have : ¬ (l84 : Int) > 65528 := of_decide_eq_false hc
      omega
    have e := hs.full (by omega)
    subst e
    rw [if_neg (by omega)]
    subst hl
    exact ⟨a84, c84, rfl, k.only⟩
end Go.Proofs.YtgdgebmlcgohhaaGreatDoor.F
