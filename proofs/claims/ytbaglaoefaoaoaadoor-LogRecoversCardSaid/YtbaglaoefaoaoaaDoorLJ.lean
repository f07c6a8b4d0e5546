/- The laws of the log: LogPlays answers true. Conditions: none. -/
import Derived.Test.YtbaglaoefaoaoaaDoorLI
namespace Go.Proofs.YtbaglaoefaoaoaaDoor.F
open Go Go.VC Go.Proofs
set_option linter.unusedSimpArgs false
set_option linter.unusedVariables false
set_option maxRecDepth 100000
attribute [local irreducible] CallsH RunsTo PureTo

variable {S F G : Nat → Prop} {h0 h h1 : Heap} {L R L' : List A} {a b la wa : Option Addr} {l c l2 c2 p q1 q2 cl cw : Nat} {bs cs : List UInt8} {bss css : List Bytes} {s : LogS}
/-- Both logs over one disk, or none. -/
abbrev Pr := Option (Nat × Nat × LogS)
def pv1 (t : Pr) : Option Addr := match t with | some t => some ⟨t.1, 0, none⟩ | none => none
def pv2 (t : Pr) : Option Addr := match t with | some t => some ⟨t.2.1, 0, none⟩ | none => none
def PrA (t : Pr) : A := match t with | some t => A.all [LogA 81 83 t.1 t.2.2, LogA 101 107 t.2.1 t.2.2] | none => A.all []
def PrOk (t : Pr) (B : Nat) : Prop := ∀ x, t = some x → x.2.2.Ok ∧ x.2.2.big ≤ B
theorem PrOk.mono {t : Pr} {B C : Nat} (k : PrOk t B) (h : B ≤ C) : PrOk t C := fun x e => ⟨(k x e).1, Nat.le_trans (k x e).2 h⟩
theorem PrOk.none (B : Nat) : PrOk none B := fun _ e => by cases e
theorem opened_pr (k : St none_ h0 h (PlA p :: R)) (hT : Tab none_ h0) (hd : RoL none_ h0 a l bss) (hb : tot bss ≤ 137438953472) {K : KV}
    (q : ∀ t h', PrOk t 137438953472 → St none_ h0 h' (PlA p :: PrA t :: R) → K (.tuple #[.pointer (pv1 t), .pointer (pv2 t), .bool true]) h') :
    CallsH Tryd.prog 9 #[.pointer (some ⟨p, 0, none⟩), .agg #[.slice a l c]] h K := by
  obtain ⟨F', G, k1, kG, _, hF, back⟩ := St.frame (L := [PlA p]) (R := R) k
  refine CallsH.mono (opened_spec k1 (hT.at k.ext hF) (hd.at k.ext hF) hb) ?_
  rintro _ h' (⟨_, rfl, k2⟩ | ⟨st, q1, q2, hS, rfl, k2⟩)
  · have k : St none_ h0 h' (PlA p :: R) := back k2
    exact q none h' (.none _) k.all0.pull1
  · refine q (some (q1, q2, st.s)) h' ?_ ?_
    · rintro _ ⟨⟩
      obtain ⟨ok, e1, e2, ht, hf⟩ := openS_ok hS
      refine ⟨ok, ?_⟩
      show st.s.big ≤ _
      unfold LogS.big; rw [e1, e2]
      show tot bss + 0 ≤ _
      omega
    · have k : St none_ h0 h' (PlA p :: LogA 81 83 q1 st.s :: LogA 101 107 q2 st.s :: R) := back k2
      exact (St.close (L := [LogA 81 83 q1 st.s, LogA 101 107 q2 st.s]) k.pull2.pull2).pull1
/-- One step on a pair. -/
theorem plays_pr {t : Pr} {kind on keep : Int} {r : Bytes} {B : Nat} (k : St none_ h0 h (PlA p :: PrA t :: R)) (hT : Tab none_ h0) (hr : Ro none_ h0 a (bytesV r)) (hl : r.length = l) (hlb : l ≤ 1099511627776) (ht : PrOk t B) (hB : B ≤ 274877906944) (hk : keep < 9223372036854775808) {x1 y1 : Option Addr} (e1 : pv1 t = x1) (e2 : pv2 t = y1) (hy : y1.isNone = false) {K : KV}
    (q : ∀ t' h', pv1 t' = x1 → pv2 t' = y1 → PrOk t' (B + (l + 25)) → St none_ h0 h' (PlA p :: PrA t' :: R) → K (.bool true) h') :
    CallsH Tryd.prog 13 #[.pointer (some ⟨p, 0, none⟩), .pointer x1, .pointer y1, .agg #[.int .i64 kind, .int .i64 on, .slice a l c, .int .i64 keep]] h K := by
  subst e1 e2
  match t, k, ht, hy, q with
  | none, _, _, hy, _ => cases hy
  | some (q1, q2, s), k, ht, hy, q =>
    obtain ⟨ok, hb⟩ := ht _ rfl
    have hb : s.big ≤ B := hb
    have k : St none_ h0 h (PlA p :: LogA 81 83 q1 s :: LogA 101 107 q2 s :: R) := (St.open (L := [LogA 81 83 q1 s, LogA 101 107 q2 s]) k.pull1).pull2
    obtain ⟨F', G, k1, kG, _, hF, back⟩ := St.frame (L := [PlA p, LogA 81 83 q1 s, LogA 101 107 q2 s]) (R := R) k
    refine CallsH.mono (plays_spec k1 (hT.at k.ext hF) (hr.at k.ext hF) hl hlb ok (by omega) hk) ?_
    rintro _ h' ⟨rfl, k2⟩
    refine q (some (q1, q2, stepS s kind r)) h' rfl rfl ?_ ?_
    · rintro _ ⟨⟩
      refine ⟨stepS_ok ok kind r, ?_⟩
      have := stepS_big s kind r
      show (stepS s kind r).big ≤ _
      omega
    · have k : St none_ h0 h' (PlA p :: LogA 81 83 q1 (stepS s kind r) :: LogA 101 107 q2 (stepS s kind r) :: R) := back k2
      exact (St.close (L := [LogA 81 83 q1 (stepS s kind r), LogA 101 107 q2 (stepS s kind r)]) k.pull2.pull2).pull1
structure PsM where
  kind : Int
  on : Int
  a : Option Addr
  l : Nat
  c : Nat
  r : Bytes
  keep : Int
def psC (o : PsM) : List Value := [.int .i64 o.kind, .int .i64 o.on, .slice o.a o.l o.c, .int .i64 o.keep]
/-- What the first j steps may add. -/
def psB (os : List PsM) (j : Nat) : Nat := 137438953472 + ((os.take j).map fun o => o.l + 25).sum
theorem psB_next {os : List PsM} {j : Nat} {o : PsM} (h : os[j]? = some o) : psB os (j + 1) = psB os j + (o.l + 25) := by
  unfold psB
  rw [List.take_add_one, h, Option.toList_some, List.map_append, List.sum_append]
  simp; omega
theorem psB_le (os : List PsM) (j : Nat) : psB os j ≤ 137438953472 + (os.map fun o => o.l + 25).sum := by
  unfold psB
  conv => rhs; rw [← List.take_append_drop j os, List.map_append, List.sum_append]
  omega
theorem psB_0 (os : List PsM) (j : Nat) : 137438953472 ≤ psB os j := Nat.le_add_right _ _
/-- What the first j steps may add. -/
def pgB (os : List PsM) (j : Nat) : Nat := ((os.take j).map fun o => o.l + 25).sum
theorem pgB_next {os : List PsM} {j : Nat} {o : PsM} (h : os[j]? = some o) : pgB os (j + 1) = pgB os j + (o.l + 25) := by
  unfold pgB
  rw [List.take_add_one, h, Option.toList_some, List.map_append, List.sum_append]
  simp
theorem pgB_le (os : List PsM) (j : Nat) : pgB os j ≤ (os.map fun o => o.l + 25).sum := by
  unfold pgB
  conv => rhs; rw [← List.take_append_drop j os, List.map_append, List.sum_append]
  omega
theorem logPlays_spec {a0 a1 a2 : Option Addr} {l0 c0 l1 c1 l2 c2 : Nat} {d0 d1 : List Bytes} {os : List PsM} (hT : Tab none_ h) (hd0 : RoL none_ h a0 l0 d0) (hb0 : tot d0 ≤ 137438953472) (hd1 : RoL none_ h a1 l1 d1) (hb1 : tot d1 ≤ 137438953472)
    (hs : Sl h a2 (os.flatMap psC)) (hl : os.length = l2) (ho : ∀ o ∈ os, Sl h o.a (bytesV o.r) ∧ o.r.length = o.l ∧ o.keep < 9223372036854775808) (hB : (os.map fun o => o.l + 25).sum ≤ 137438953472) (hlb : l2 < 9223372036854775807) :
    CallsH Tryd.prog 4 #[.agg #[.slice a0 l0 c0], .agg #[.slice a1 l1 c1], .slice a2 l2 c2] h (fun v h' => v = .bool true ∧ Ext h h') := by
  refine vf4 _ _ _ _ _ _ _ _ _ h _ ?_
  unfold F4
  have k := St.fresh h
  refine k.vnew fun b1 h2 k => k.vnew fun b3 h4 k => ?_
  refine CallsH.mono (begun_spec (hT.in k)) ?_
  rintro _ h6 ⟨rfl, m6⟩
  have k := k.next m6
  refine ⟨_, rfl, cond_false rfl ?_⟩
  refine k.make T26 (n := 0) (m := 5000) rfl rfl (by omega) (by omega) fun a10 h9 k => ⟨_, _, _, rfl, ?_⟩
  have k := k.re (y := BV a10 0 5000 []) rfl
  refine k.vnew fun b11 h12 k => ?_
  have k := PlA.mk k
  have k : St none_ h h12 [PlA b11, A.blk b1 #[.slice a0 l0 c0] 34, A.blk b3 #[.slice a1 l1 c1] 34] := k.sel 3 [0, 2, 1] rfl (by decide) (by rfl)
  refine ⟨_, _, _, k.rd (by rfl), ?_⟩
  refine opened_pr k hT hd0 hb0 fun pr1 h15 ok1 k => ⟨_, _, _, rfl, _, _, _, k.rd (by rfl), ?_⟩
  refine opened_pr k hT hd1 hb1 fun pr2 h21 ok2 k => ⟨_, _, _, rfl, cond_false rfl (cond_false rfl ?_)⟩
  have k : St none_ h h21 [PlA b11, PrA pr1, PrA pr2, PrA none, A.blk b1 #[.slice a0 l0 c0] 34, A.blk b3 #[.slice a1 l1 c1] 34] := (k.all0).sel 6 [1, 3, 2, 0, 4, 5] rfl (by decide) (by rfl)
  have hst : ∃ n, ∃ (j : Nat) (t1 t2 t3 : Pr), (0 : Int) = j ∧ j ≤ l2 ∧ n = l2 - j ∧ true = true ∧ pv1 t1 = pv1 pr1 ∧ pv2 t1 = pv2 pr1 ∧ pv1 t2 = pv1 pr2 ∧ pv2 t2 = pv2 pr2 ∧ (none : Option Addr) = pv1 t3 ∧ (none : Option Addr) = pv2 t3 ∧ PrOk t1 (psB os j) ∧ PrOk t2 (psB os j) ∧ PrOk t3 (psB os j) ∧
      St none_ h h21 [PlA b11, PrA t1, PrA t2, PrA t3, A.blk b1 #[.slice a0 l0 c0] 34, A.blk b3 #[.slice a1 l1 c1] 34] :=
    ⟨_, 0, pr1, pr2, none, rfl, by omega, rfl, rfl, rfl, rfl, rfl, rfl, rfl, rfl, ok1.mono (psB_0 _ _), ok2.mono (psB_0 _ _), .none _, k⟩
  refine ⟨fun n hh _ ok x y i => ∃ (j : Nat) (t1 t2 t3 : Pr), i = j ∧ j ≤ l2 ∧ n = l2 - j ∧ ok = true ∧ pv1 t1 = pv1 pr1 ∧ pv2 t1 = pv2 pr1 ∧ pv1 t2 = pv1 pr2 ∧ pv2 t2 = pv2 pr2 ∧ x = pv1 t3 ∧ y = pv2 t3 ∧ PrOk t1 (psB os j) ∧ PrOk t2 (psB os j) ∧ PrOk t3 (psB os j) ∧
      St none_ h hh [PlA b11, PrA t1, PrA t2, PrA t3, A.blk b1 #[.slice a0 l0 c0] 34, A.blk b3 #[.slice a1 l1 c1] 34], hst, ?_⟩
  clear hst k ok1 ok2
  rintro n hh _ _ ok x y i ⟨j, t1, t2, t3, rfl, hj, rfl, rfl, e11, e12, e21, e22, rfl, rfl, ok1, ok2, ok3, k⟩
  refine cond_split (fun hc => ?_) (fun hc => ⟨rfl, k.ext⟩)
  have hjl : j < l2 := Int.ofNat_lt.1 (of_decide_eq_true hc)
  obtain ⟨o, hoj⟩ : ∃ o, os[j]? = some o := ⟨_, List.getElem?_eq_getElem (by omega)⟩
  obtain ⟨o1, o2, o3⟩ := ho o (List.mem_of_getElem? hoj)
  have hbn := psB_next hoj
  have hbl := psB_le os (j + 1)
  have hmono : psB os j ≤ psB os (j + 1) := by omega
  refine ⟨fun h' _ ok x y _ => ∃ (t1 t2 t3 : Pr), ok = true ∧ pv1 t1 = pv1 pr1 ∧ pv2 t1 = pv2 pr1 ∧ pv1 t2 = pv1 pr2 ∧ pv2 t2 = pv2 pr2 ∧ x = pv1 t3 ∧ y = pv2 t3 ∧ PrOk t1 (psB os (j + 1)) ∧ PrOk t2 (psB os (j + 1)) ∧ PrOk t3 (psB os (j + 1)) ∧
      St none_ h h' [PlA b11, PrA t1, PrA t2, PrA t3, A.blk b1 #[.slice a0 l0 c0] 34, A.blk b3 #[.slice a1 l1 c1] 34], ?_, ?_⟩
  case refine_2 =>
    rintro h' _ _ ok x y _ ⟨t1, t2, t3, r⟩
    exact ⟨_, by omega, j + 1, t1, t2, t3, wrap_nat hjl (by omega), hjl, rfl, r⟩
  refine (hs.ext k.ext).row (f := psC) (fun _ => rfl) (by omega) hl (by omega) (by omega) fun ad o' ho' hcell => ?_
  rw [Int.toNat_natCast, hoj] at ho'
  cases ho'
  refine ⟨_, hcell 0 _ rfl, _, hcell 1 _ rfl, _, _, _, hcell 2 _ rfl, _, hcell 3 _ rfl, ?_⟩
  refine k.vnew fun b41 h42 k => ?_
  refine k.vall (by rfl) (by rfl) fun h43 k => ?_
  have k : St none_ h h43 [A.blk b41 #[.int .i64 o.kind, .int .i64 o.on, .slice o.a o.l o.c, .int .i64 o.keep] 41, PlA b11, PrA t1, PrA t2, PrA t3, A.blk b1 #[.slice a0 l0 c0] 34, A.blk b3 #[.slice a1 l1 c1] 34] := k
  have hlo : o.l ≤ 1099511627776 := by omega
  refine ⟨fun h' ok => ∃ (t1 t2 : Pr), ok = true ∧ pv1 t1 = pv1 pr1 ∧ pv2 t1 = pv2 pr1 ∧ pv1 t2 = pv1 pr2 ∧ pv2 t2 = pv2 pr2 ∧ PrOk t1 (psB os (j + 1)) ∧ PrOk t2 (psB os (j + 1)) ∧
      St none_ h h' [A.blk b41 #[.int .i64 o.kind, .int .i64 o.on, .slice o.a o.l o.c, .int .i64 o.keep] 41, PlA b11, PrA t1, PrA t2, PrA t3, A.blk b1 #[.slice a0 l0 c0] 34, A.blk b3 #[.slice a1 l1 c1] 34], ?_, ?_⟩
  · have stay : ∃ (t1 t2 : Pr), true = true ∧ pv1 t1 = pv1 pr1 ∧ pv2 t1 = pv2 pr1 ∧ pv1 t2 = pv1 pr2 ∧ pv2 t2 = pv2 pr2 ∧ PrOk t1 (psB os (j + 1)) ∧ PrOk t2 (psB os (j + 1)) ∧
      St none_ h h43 [A.blk b41 #[.int .i64 o.kind, .int .i64 o.on, .slice o.a o.l o.c, .int .i64 o.keep] 41, PlA b11, PrA t1, PrA t2, PrA t3, A.blk b1 #[.slice a0 l0 c0] 34, A.blk b3 #[.slice a1 l1 c1] 34] :=
      ⟨t1, t2, rfl, e11, e12, e21, e22, ok1.mono hmono, ok2.mono hmono, k⟩
    refine ⟨_, k.rd (by rfl), cond_split (fun hc => cond_split (fun hn => ?_) (fun hn => ⟨_, k.rd (by rfl), cond_false (by simpa using hc) stay⟩)) (fun hc => ⟨_, k.rd (by rfl), cond_split (fun _ => cond_split (fun hn => ?_) (fun _ => stay)) (fun _ => stay)⟩)⟩
    · refine ⟨_, k.rd (by rfl), _, k.rd (by rfl), _, _, _, k.rd (by rfl), _, k.rd (by rfl), ?_⟩
      refine plays_pr (k.sel 7 [1, 2, 0, 3, 4, 5, 6] rfl (by decide) (by rfl) (L' := [PlA b11, PrA t1, A.blk b41 #[.int .i64 o.kind, .int .i64 o.on, .slice o.a o.l o.c, .int .i64 o.keep] 41, PrA t2, PrA t3, A.blk b1 #[.slice a0 l0 c0] 34, A.blk b3 #[.slice a1 l1 c1] 34])) hT o1.ro o2 hlo ok1 (by omega) o3 e11 e12 (by simpa using hn) fun t' h' f1 f2 ok' k => ?_
      exact ⟨_, rfl, t', t2, rfl, f1, f2, e21, e22, hbn ▸ ok', ok2.mono hmono, k.sel 7 [2, 0, 1, 3, 4, 5, 6] rfl (by decide) (by rfl)⟩
    · refine ⟨_, k.rd (by rfl), _, k.rd (by rfl), _, _, _, k.rd (by rfl), _, k.rd (by rfl), ?_⟩
      refine plays_pr (k.sel 7 [1, 3, 0, 2, 4, 5, 6] rfl (by decide) (by rfl) (L' := [PlA b11, PrA t2, A.blk b41 #[.int .i64 o.kind, .int .i64 o.on, .slice o.a o.l o.c, .int .i64 o.keep] 41, PrA t1, PrA t3, A.blk b1 #[.slice a0 l0 c0] 34, A.blk b3 #[.slice a1 l1 c1] 34])) hT o1.ro o2 hlo ok2 (by omega) o3 e21 e22 (by simpa using hn) fun t' h' f1 f2 ok' k => ?_
      exact ⟨_, rfl, t1, t', rfl, e11, e12, f1, f2, ok1.mono hmono, hbn ▸ ok', k.sel 7 [2, 0, 3, 1, 4, 5, 6] rfl (by decide) (by rfl)⟩
  rintro h69 _ ok ⟨t1, t2, rfl, e11, e12, e21, e22, ok1, ok2, k⟩
  refine cond_false rfl ⟨fun h' => St none_ h h' [A.blk b41 #[.int .i64 o.kind, .int .i64 o.on, .slice o.a o.l o.c, .int .i64 o.keep] 41, PlA b11, PrA t1, PrA t2, PrA t3, A.blk b1 #[.slice a0 l0 c0] 34, A.blk b3 #[.slice a1 l1 c1] 34], ⟨by omega, ?_⟩, ?_⟩
  · refine cond_split (fun _ => ?_) (fun _ => k)
    refine CallsH.mono (open_spec (hT.in k) (.nil _ _) (Nat.zero_le _)) ?_
    rintro _ h74 (⟨_, rfl, m⟩ | ⟨st, p, ra, rl, rc, _, rfl, k1⟩)
    · exact ⟨_, _, _, _, _, rfl, k.next m⟩
    · exact ⟨_, _, _, _, _, rfl, (k.add2 k1).drop.drop⟩
  rintro h78 _ k
  refine ⟨fun h' _ ok x y => ∃ t3 : Pr, ok = true ∧ x = pv1 t3 ∧ y = pv2 t3 ∧ PrOk t3 (psB os j) ∧ St none_ h h' [A.blk b41 #[.int .i64 o.kind, .int .i64 o.on, .slice o.a o.l o.c, .int .i64 o.keep] 41, PlA b11, PrA t1, PrA t2, PrA t3, A.blk b1 #[.slice a0 l0 c0] 34, A.blk b3 #[.slice a1 l1 c1] 34], ⟨by omega, ?_⟩, ?_⟩
  · refine cond_split (fun _ => ?_) (fun _ => ⟨t3, rfl, rfl, rfl, ok3, k⟩)
    refine ⟨_, _, _, k.rd (by rfl), ?_⟩
    refine opened_pr k.pull1 hT hd0 hb0 fun t4 h83 ok4 k => ⟨_, _, _, rfl, cond_false rfl ⟨t4, rfl, rfl, rfl, ok4.mono (psB_0 _ _), ?_⟩⟩
    have k : St none_ h h83 [PlA b11, PrA t4, A.blk b41 #[.int .i64 o.kind, .int .i64 o.on, .slice o.a o.l o.c, .int .i64 o.keep] 41, PrA t1, PrA t2, PrA t3, A.blk b1 #[.slice a0 l0 c0] 34, A.blk b3 #[.slice a1 l1 c1] 34] := k
    have k : St none_ h h83 [PrA t3, A.blk b41 #[.int .i64 o.kind, .int .i64 o.on, .slice o.a o.l o.c, .int .i64 o.keep] 41, PlA b11, PrA t1, PrA t2, PrA t4, A.blk b1 #[.slice a0 l0 c0] 34, A.blk b3 #[.slice a1 l1 c1] 34] := k.sel 8 [5, 2, 0, 3, 4, 1, 6, 7] rfl (by decide) (by rfl)
    exact k.drop
  rintro h87 _ _ ok x y ⟨t3, rfl, rfl, rfl, ok3, k⟩
  refine cond_split (fun hn => ?_) (fun _ => ⟨t1, t2, t3, rfl, e11, e12, e21, e22, rfl, rfl, ok1, ok2, ok3.mono hmono, k.drop⟩)
  refine ⟨_, k.rd (by rfl), _, k.rd (by rfl), _, _, _, k.rd (by rfl), _, k.rd (by rfl), ?_⟩
  refine plays_pr (k.sel 7 [1, 4, 0, 2, 3, 5, 6] rfl (by decide) (by rfl) (L' := [PlA b11, PrA t3, A.blk b41 #[.int .i64 o.kind, .int .i64 o.on, .slice o.a o.l o.c, .int .i64 o.keep] 41, PrA t1, PrA t2, A.blk b1 #[.slice a0 l0 c0] 34, A.blk b3 #[.slice a1 l1 c1] 34])) hT o1.ro o2 hlo ok3 (by omega) o3 rfl rfl (by simpa using hn) fun t' h' f1 f2 ok' k => ?_
  refine ⟨_, rfl, cond_false rfl ⟨t1, t2, t', rfl, e11, e12, e21, e22, f1.symm, f2.symm, ok1, ok2, hbn ▸ ok', ?_⟩⟩
  have k : St none_ h h' [A.blk b41 #[.int .i64 o.kind, .int .i64 o.on, .slice o.a o.l o.c, .int .i64 o.keep] 41, PlA b11, PrA t1, PrA t2, PrA t', A.blk b1 #[.slice a0 l0 c0] 34, A.blk b3 #[.slice a1 l1 c1] 34] := k.sel 7 [2, 0, 3, 4, 1, 5, 6] rfl (by decide) (by rfl)
  exact k.drop
end Go.Proofs.YtbaglaoefaoaoaaDoor.F
