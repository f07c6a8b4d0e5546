/- Package proto: the program's reader: values, events; lists in memory. Conditions: none. -/
import Derived.Test.YtgdgebmlcgohhaaDoorQ6
namespace Go.Proofs.YtgdgebmlcgohhaaDoor.F
open Go Go.VC Go.Proofs
set_option linter.unusedSimpArgs false
set_option linter.unusedVariables false
set_option maxRecDepth 100000
attribute [local irreducible] CallsH RunsTo PureTo

/-! ### Lists that are held, each element with what it holds itself -/
structure El (α : Type) where
  σ : Type
  val : σ → α
  e : Nat
  sz : Nat
  cells : σ → List Value
  own : σ → A
  len : ∀ s, (cells s).length = sz
  one : ∀ s, ∀ v ∈ cells s, oneC v = true
  pos : 0 < sz
  rd : (Nat → Prop) → Heap → σ → Prop
  rdAt : ∀ {S F : Nat → Prop} {h0 h : Heap} {s : σ}, rd S h0 s → Mod S h0 h → (∀ b, F b → S b ∨ h0.size ≤ b) → rd F h s
  rdOwn : ∀ {S : Nat → Prop} {h0 h : Heap} {R : List A} {s : σ}, St S h0 h (own s :: R) → rd none_ h s
section
variable {α : Type} {E : El α} {S F G : Nat → Prop} {h0 h h1 : Heap} {R : List A} {a : Option Addr} {l c : Nat} {xs : List α}
def El.L (E : El α) (a : Option Addr) (l c : Nat) (xs : List α) : A :=
  A.ex fun ss : List E.σ => A.fact (ss.map E.val = xs) (A.all [A.vec E.e E.sz a l c (ss.flatMap E.cells), A.all (ss.map E.own)])
theorem El.open (k : St S h0 h (E.L a l c xs :: R)) : ∃ ss : List E.σ, ss.map E.val = xs ∧ St S h0 h (A.vec E.e E.sz a l c (ss.flatMap E.cells) :: A.all (ss.map E.own) :: R) := by
  obtain ⟨ss, k⟩ := St.opens k
  obtain ⟨he, k⟩ := k.facts
  exact ⟨ss, he, St.open (L := [A.vec E.e E.sz a l c (ss.flatMap E.cells), A.all (ss.map E.own)]) k⟩
theorem El.close {ss : List E.σ} (he : ss.map E.val = xs) (k : St S h0 h (A.vec E.e E.sz a l c (ss.flatMap E.cells) :: A.all (ss.map E.own) :: R)) : St S h0 h (E.L a l c xs :: R) :=
  St.closes (f := fun ss : List E.σ => A.fact (ss.map E.val = xs) (A.all [A.vec E.e E.sz a l c (ss.flatMap E.cells), A.all (ss.map E.own)])) (x := ss) (St.mkfact he (St.close (L := [A.vec E.e E.sz a l c (ss.flatMap E.cells), A.all (ss.map E.own)]) k))
theorem El.nil (E : El α) (k : St S h0 h R) : St S h0 h (E.L none 0 0 [] :: R) :=
  El.close (ss := []) rfl ((k.all0).vnil E.e (sz := E.sz) E.pos)
theorem El.length (k : St S h0 h (E.L a l c xs :: R)) : xs.length = l ∧ l ≤ c ∧ c < 9223372036854775808 := by
  obtain ⟨ss, he, k⟩ := El.open k
  obtain ⟨v, _, hc⟩ := St.vec (a := a) k
  have h1 := v.len
  rw [flatMap_len E.len] at h1
  have := Nat.eq_of_mul_eq_mul_right E.pos h1
  rw [← he, List.length_map]
  exact ⟨this, v.le, hc⟩
/-- One element more. -/
theorem El.app {P : Program} {t bt : Nat} {z : Value} (T : SlTy P t E.e E.sz bt z) {s : E.σ} {bb : Nat} (k : St S h0 h (A.blk bb (E.cells s).toArray E.e :: E.own s :: E.L a l c xs :: R)) (hb : (l + 1) * bt ≤ 140737488355328) {K : KV}
    (q : ∀ a' c' h', St S h0 h' (E.L a' (l + 1) c' (xs ++ [E.val s]) :: R) → K (.slice a' (l + 1) c') h') : RunsTo P (Builtin.append_ #[t, t] t #[.slice a l c, .slice (some ⟨bb, 0, none⟩) 1 1]) h K := by
  obtain ⟨ss, he, k⟩ := El.open k.pull2
  have hsl : Sl h (some ⟨bb, 0, none⟩) (E.cells s) := k.slB (b := bb)
  refine k.app T T.ut (by simp) (Src.slice hsl (by rw [E.len, Nat.one_mul])) (E.one s) hb fun a' c' h' k => q a' c' h' ?_
  have e1 : ss.flatMap E.cells ++ E.cells s = (ss ++ [s]).flatMap E.cells := by rw [List.flatMap_append]; simp
  rw [e1] at k
  refine El.close (ss := ss ++ [s]) (by rw [List.map_append, he]; rfl) ?_
  have k := k.pull3.pull2.pull1.allIn
  have k := k.allPerm (L' := (ss ++ [s]).map E.own) (by rw [List.map_append]; exact (List.perm_append_singleton _ _).symm)
  exact (k.pull2.drop).pull1
/-- Such a list, where others hold it, away from F. -/
def RoX (E : El α) (F : Nat → Prop) (h : Heap) (a : Option Addr) (l : Nat) (xs : List α) : Prop :=
  ∃ ss : List E.σ, Ro F h a (ss.flatMap E.cells) ∧ (∀ s ∈ ss, E.rd F h s) ∧ ss.map E.val = xs ∧ xs.length = l
theorem RoX.at (k : RoX E S h0 a l xs) (m : Mod S h0 h) (hf : ∀ b, F b → S b ∨ h0.size ≤ b) : RoX E F h a l xs := by
  obtain ⟨ss, q1, q2, q3, q4⟩ := k
  exact ⟨ss, q1.at m hf, fun s hs => E.rdAt (q2 s hs) m hf, q3, q4⟩
theorem RoX.in (k : RoX E S h0 a l xs) (s : St S h0 h R) : RoX E none_ h a l xs := k.at s.ext fun _ h => h.elim
theorem RoX.len (k : RoX E S h0 a l xs) : xs.length = l := by obtain ⟨_, _, _, _, e⟩ := k; exact e
theorem RoX.one {hh : Heap} (k : RoX E F h a l xs) (m : Mod F h hh) {i : Int} {K : Addr → Prop} (h0 : 0 ≤ i) (hi : i < l)
    (q : ∀ ad (s : E.σ), xs[i.toNat]? = some (E.val s) → (∀ r v, (E.cells s)[r]? = some v → cellH hh (addN ad r) = some v) → E.rd F h s → K ad) : VIdx a l i E.sz K := by
  obtain ⟨ss, q1, q2, q3, q4⟩ := k
  have hl : ss.length = l := by rw [← q4, ← q3, List.length_map]
  refine (q1.mod m).sl.row E.len E.pos hl h0 hi fun ad s hs hc => q ad s ?_ hc (q2 s (List.mem_of_getElem? hs))
  rw [← q3, List.getElem?_map, hs]; rfl
theorem El.all_rd {ss : List E.σ} {s : E.σ} (k : St S h0 h (A.all (ss.map E.own) :: R)) (hs : s ∈ ss) : E.rd none_ h s := by
  obtain ⟨s1, s2, rfl⟩ := List.append_of_mem hs
  have k := (St.allPerm k (L' := (s :: (s1 ++ s2)).map E.own) (List.perm_middle.map _)).allOut
  exact E.rdOwn k
theorem El.ro (k : St S h0 h (E.L a l c xs :: R)) : RoX E none_ h a l xs := by
  have hl := (El.length k).1
  obtain ⟨ss, he, k⟩ := El.open k
  exact ⟨ss, (k.sl (a := a)).ro, fun s hs => El.all_rd k.drop hs, he, hl⟩
end
abbrev none1 : A := A.all []
structure Se where
  a : Option Addr
  c : Nat
  e : Ev
def seV (s : Se) : List Value := [.string (bA s.e.t), .int .i64 s.e.tm, .slice s.a s.e.vs.length s.c]
structure Sr where
  a : Option Addr
  c : Nat
  vs : List Val
def srV (s : Sr) : List Value := [.slice s.a s.vs.length s.c]
structure Sx where
  a : Option Addr
  c : Nat
  x : Hi
def sxV (s : Sx) : List Value := [.string (bA s.x.q), .slice s.a s.x.row.length s.c]
abbrev texE : El Bytes := ⟨Bytes, id, 9, 1, fun s => [strV s], fun _ => none1, fun _ => rfl, fun s v hv => by simp at hv; subst hv; rfl, by omega, fun _ _ _ => True, fun _ _ _ => trivial, fun _ => trivial⟩
abbrev errE : El Int := ⟨Int, id, 27, 1, fun s => [.int .i64 s], fun _ => none1, fun _ => rfl, fun s v hv => by simp at hv; subst hv; rfl, by omega, fun _ _ _ => True, fun _ _ _ => trivial, fun _ => trivial⟩
abbrev valE : El Val := ⟨Val, id, 134, 4, valV, fun _ => none1, fun _ => rfl, oneC_val, by omega, fun _ _ _ => True, fun _ _ _ => trivial, fun _ => trivial⟩
variable {S F G : Nat → Prop} {h0 h h1 : Heap} {L R L' : List A} {a b a1 a2 : Option Addr} {l c l1 c1 l2 c2 p t : Nat} {bs cs bs1 bs2 : List UInt8} {bad bad1 bad2 : Bool} {v : Val}
theorem VV.toL {vs : List Val} (k : St S h0 h (VV a l c vs :: R)) : St S h0 h (valE.L a l c vs :: R) := by
  refine El.close (E := valE) (ss := vs) (by simp) ?_
  have e : A.all (vs.map valE.own) = A.all (List.replicate vs.length none1) := by rw [← List.map_const']
  rw [e]
  have q : ∀ n, St S h0 h (VV a l c vs :: A.all (List.replicate n none1) :: R) := fun n => by
    induction n with
    | zero => exact k.all0.pull1
    | succ n ih => exact ((ih.pull1.all0).allIn).pull1
  exact q _
theorem valE.toV {vs : List Val} (k : St S h0 h (valE.L a l c vs :: R)) : St S h0 h (VV a l c vs :: R) := by
  obtain ⟨ss, he, k2⟩ := El.open (E := valE) k
  have he : ss = vs := by simpa using he
  subst he
  exact k2.pull1.drop
abbrev evE : El Ev := ⟨Se, Se.e, 126, 3, seV, fun s => VV s.a s.e.vs.length s.c s.e.vs, fun _ => rfl, fun s v hv => by simp [seV] at hv; rcases hv with rfl | rfl | rfl <;> rfl, by omega,
  fun F h s => Ro F h s.a (s.e.vs.flatMap valV), fun r m hf => r.at m hf, fun {_ _ _ _ s} k => (k.sl (a := s.a)).ro⟩
abbrev rowE : El (List Val) := ⟨Sr, Sr.vs, 98, 1, srV, fun s => valE.L s.a s.vs.length s.c s.vs, fun _ => rfl, fun s v hv => by simp [srV] at hv; subst hv; rfl, by omega,
  fun F h s => Ro F h s.a (s.vs.flatMap valV), fun r m hf => r.at m hf, fun {_ _ _ _ s} k => ((valE.toV k).sl (a := s.a)).ro⟩
abbrev hitE : El Hi := ⟨Sx, Sx.x, 100, 2, sxV, fun s => valE.L s.a s.x.row.length s.c s.x.row, fun _ => rfl, fun s v hv => by simp [sxV] at hv; rcases hv with rfl | rfl <;> rfl, by omega,
  fun F h s => Ro F h s.a (s.x.row.flatMap valV), fun r m hf => r.at m hf, fun {_ _ _ _ s} k => ((valE.toV k).sl (a := s.a)).ro⟩
theorem T23 : SlTy Tryd.prog 23 9 1 16 (.string (ByteArray.mk #[])) := ⟨by kernel_rfl, by kernel_rfl, rfl, by omega, by omega⟩
theorem T28 : SlTy Tryd.prog 28 27 1 8 (.int .i64 0) := ⟨by kernel_rfl, by kernel_rfl, rfl, by omega, by omega⟩
theorem T24 : SlTy Tryd.prog 24 126 3 48 (.agg #[.string (ByteArray.mk #[]), .int .i64 0, .slice none 0 0]) := ⟨by kernel_rfl, by kernel_rfl, rfl, by omega, by omega⟩
theorem TR30 : SlTy Tryd.prog 30 98 1 24 (.slice none 0 0) := ⟨by kernel_rfl, by kernel_rfl, rfl, by omega, by omega⟩
theorem T29 : SlTy Tryd.prog 29 100 2 40 (.agg #[.string (ByteArray.mk #[]), .slice none 0 0]) := ⟨by kernel_rfl, by kernel_rfl, rfl, by omega, by omega⟩
/-! ### Values and events -/
theorem valP_step (k0 : Holds [RP t p a l c bad] F h) (r : RdP F h a l c bs) : CallsH Tryd.prog 84 #[.pointer (some ⟨p, 0, none⟩)] h
    (fun v h' => ∃ (x : Val) (a1 : Option Addr) (l1 c1 : Nat) (bs1 : Bytes) (bad1 : Bool), v = aggV x ∧ Nxt a l c bs a1 l1 c1 bs1 ∧ StepO valO bs bad x bs1 bad1 ∧ St F h h' [RP t p a1 l1 c1 bad1]) := by
  refine vf84 _ h _ ?_
  unfold F84
  have k := St.start k0
  refine k.vnew fun b1 h2 k => ?_
  obtain ⟨F', G, kF, kG, d, hF, back⟩ := k.pull1.frameA
  refine CallsH.mono (oneP_step kF (r.at k.ext hF)) ?_
  rintro _ h4 ⟨x, a1, l1, c1, bs1, bad1, rfl, nx1, s1, hz, k2⟩
  have k := back k2
  clear back kF kG d hF
  have ex : IntKind.i64.wrap (x.toNat : Int) = (x.toNat : Int) := by have := x.toNat_lt; rw [wrap_id (by omega) (by omega)]
  refine ⟨_, rfl, k.vnew fun b6 h7 k => ?_⟩
  rw [ex]
  refine k.vall (by rfl) (by rfl) fun h8 k => ?_
  refine ⟨fun h' => ∃ (v : Val) (a2 : Option Addr) (l2 c2 : Nat) (bs2 : Bytes) (bad2 : Bool), Nxt a l c bs a2 l2 c2 bs2 ∧ StepO (valB x) bs1 bad1 v bs2 bad2 ∧ St F h h' [RP t p a2 l2 c2 bad2, A.blk b6 (valV v).toArray 134, A.blk b1 zeroV 134], ⟨_, k.rd (by rfl), ?_⟩, ?_⟩
  rotate_left
  · clear k
    rintro h' _ ⟨v, a2, l2, c2, bs2, bad2, nx2, s2, k⟩
    refine VSome.mk ⟨_, k.rd (by rfl), ?_⟩
    cases bad2
    · refine cond_false rfl ⟨_, k.rd (by rfl), _, k.rd (by rfl), _, k.rd (by rfl), _, k.rd (by rfl), ?_⟩
      refine CallsH.mono (valid_spec v) ?_
      rintro _ h43 ⟨rfl, m⟩
      have k := k.next m
      refine ⟨_, rfl, VSome.mk (k.vst (Nat.le_of_ble_eq_true (by rfl)) fun h46 k => ⟨_, k.rd (by rfl), _, k.rd (by rfl), _, k.rd (by rfl), _, k.rd (by rfl), k.vall (by rfl) (by rfl) fun h6 k => ⟨_, k.rd (by rfl), _, k.rd (by rfl), _, k.rd (by rfl), _, k.rd (by rfl), v, a2, l2, c2, bs2, !validV v, rfl, nx2, s1.bind (s2.bind ?_), k.only⟩⟩)⟩
      unfold chk
      cases validV v
      · exact .fail fun _ => rfl
      · exact .ok rfl
    · exact cond_true rfl (VSome.mk (k.vst (Nat.le_of_ble_eq_true (by rfl)) fun h28 k => ⟨_, k.rd (by rfl), _, k.rd (by rfl), _, k.rd (by rfl), _, k.rd (by rfl), k.vall (by rfl) (by rfl) fun h6 k => ⟨_, k.rd (by rfl), _, k.rd (by rfl), _, k.rd (by rfl), _, k.rd (by rfl), v, a2, l2, c2, bs2, true, rfl, nx2, s1.bind (s2.bind StepO.spoilt), k.only⟩⟩))
  refine cond_split (fun hc => ?_) (fun hc => ?_)
  · have hx : x.toNat = 1 := by
      have : (x.toNat : Int) = 1 := by simpa using hc
      omega
    obtain ⟨F', G, kF, kG, d, hF, back⟩ := k.pull1.frameA
    refine CallsH.mono (numP_step kF ((r.nxt nx1).at k.ext hF)) ?_
    rintro _ h12 ⟨n, a2, l2, c2, bs2, bad2, rfl, nx2, s2, _, _, k2⟩
    have k := back k2
    refine ⟨_, rfl, k.vst (Nat.le_of_ble_eq_true (by rfl)) fun h7 k => ⟨⟨1, n, [], false⟩, a2, l2, c2, bs2, bad2, nx1.trans nx2, ?_, ?_⟩⟩
    · unfold valB
      rw [if_pos hx]
      exact s2.bind (.ret _)
    · rw [hx] at k; exact k
  have hx1 : x.toNat ≠ 1 := by
    have : (x.toNat : Int) ≠ 1 := by simpa using hc
    omega
  clear hc
  refine cond_split (fun hc => ?_) (fun hc => ?_)
  · have hx : x.toNat = 2 := by
      have : (x.toNat : Int) = 2 := by simpa using hc
      omega
    obtain ⟨F', G, kF, kG, d, hF, back⟩ := k.pull1.frameA
    refine CallsH.mono (texP_step kF ((r.nxt nx1).at k.ext hF)) ?_
    rintro _ h12 ⟨s, a2, l2, c2, bs2, bad2, rfl, nx2, s2, k2⟩
    have k := back k2
    refine ⟨_, rfl, k.vst (Nat.le_of_ble_eq_true (by rfl)) fun h7 k => ⟨⟨2, 0, s, false⟩, a2, l2, c2, bs2, bad2, nx1.trans nx2, ?_, ?_⟩⟩
    · unfold valB
      rw [if_neg hx1, if_pos hx]
      exact s2.bind (.ret _)
    · rw [hx] at k; exact k
  have hx2 : x.toNat ≠ 2 := by
    have : (x.toNat : Int) ≠ 2 := by simpa using hc
    omega
  clear hc
  refine cond_split (fun hc => ?_) (fun hc => ?_)
  · have hx : x.toNat = 3 := by
      have : (x.toNat : Int) = 3 := by simpa using hc
      omega
    obtain ⟨F', G, kF, kG, d, hF, back⟩ := k.pull1.frameA
    refine CallsH.mono (truP_step kF ((r.nxt nx1).at k.ext hF)) ?_
    rintro _ h12 ⟨y, a2, l2, c2, bs2, bad2, rfl, nx2, s2, k2⟩
    have k := back k2
    refine ⟨_, rfl, k.vst (Nat.le_of_ble_eq_true (by rfl)) fun h7 k => ⟨⟨3, 0, [], y⟩, a2, l2, c2, bs2, bad2, nx1.trans nx2, ?_, ?_⟩⟩
    · unfold valB
      rw [if_neg hx1, if_neg hx2, if_pos hx]
      exact s2.bind (.ret _)
    · rw [hx] at k; exact k
  · have hx3 : x.toNat ≠ 3 := by
      have : (x.toNat : Int) ≠ 3 := by simpa using hc
      omega
    refine ⟨⟨x.toNat, 0, [], false⟩, a1, l1, c1, bs1, bad1, nx1, ?_, k.pull1⟩
    unfold valB
    rw [if_neg hx1, if_neg hx2, if_neg hx3]
    exact .ret _
theorem evR_len {b : Bytes} : (decB b).1.vs.length ≤ 16 := by
  unfold decB
  cases h : evR b with
  | ok x n =>
    obtain ⟨h1, _⟩ := Form.ev.pg _ _ _ h
    exact (fault0.1 h1.1).2.2.2.1
  | err e => exact Nat.zero_le _
/-- Its faults are no zeros. -/
def Bad {α : Type} (f : Bytes → Rd α) : Prop := ∀ b e, f b = .err e → e ≠ 0
theorem Bad.num {b : Bytes} {e : Int} (h : getN b = .err e) : e ≠ 0 := by have := getN_bad h; omega
theorem Bad.bind {α β : Type} {f : Bytes → Rd α} {g : α → Bytes → Rd β} (h1 : Bad f) (h2 : ∀ x, Bad (g x)) : Bad (bindR f g) := fun b e h => by
  unfold bindR at h
  split at h
  · split at h
    · cases h
    · rename_i _ _ _ _ _ hg
      cases h
      exact h2 _ _ _ hg
  · rename_i _ hf
    cases h
    exact h1 _ _ hf
theorem Bad.ret {α : Type} (x : α) : Bad (retR x) := fun b e h => by cases h
theorem Bad.nb (lo hi : Int) : Bad (numb lo hi) := fun b e h => by
  unfold numb at h
  split at h
  · split at h
    · cases h; omega
    · cases h
  · rename_i _ hg
    cases h
    exact Bad.num hg
theorem Bad.tk (n : Nat) : Bad (takeB n) := fun b e h => by
  unfold takeB at h
  split at h
  · cases h; omega
  · cases h
theorem Bad.one (lo hi : Nat) : Bad (oneR lo hi) := fun b e h => by
  unfold oneR at h
  split at h
  · cases h; omega
  · split at h
    · cases h; omega
    · cases h
theorem Bad.rp {α : Type} {f : Bytes → Rd α} (h : Bad f) : ∀ n, Bad (rep f n)
  | 0 => .ret _
  | n + 1 => .bind h fun _ => .bind (Bad.rp h n) fun _ => .ret _
theorem Bad.text (lo hi : Int) : Bad (textR lo hi) := .bind (.nb _ _) fun _ => .tk _
theorem Bad.val : Bad valR := .bind (.one _ _) fun c => by
  split
  · exact .bind (.nb _ _) fun _ => .ret _
  split
  · exact .bind (.text _ _) fun _ => .ret _
  · exact .bind (.one _ _) fun _ => .ret _
theorem Bad.ev : Bad evR := .bind (.bind (.text _ _) fun t => by
  split
  · exact .ret _
  · intro b e h; cases h; omega) fun _ => .bind (.nb _ _) fun _ => .bind (.nb _ _) fun _ => .bind (.rp .val _) fun _ => .ret _
theorem evP_step (hw : Wd F h) (k0 : Holds [RP t p a l c bad] F h) (r : RdP F h a l c bs) : CallsH Tryd.prog 76 #[.pointer (some ⟨p, 0, none⟩)] h
    (fun v h' => ∃ (s : Se) (a1 : Option Addr) (l1 c1 : Nat) (bs1 : Bytes) (bad1 : Bool), v = aggE s.e s.a s.e.vs.length s.c ∧ Nxt a l c bs a1 l1 c1 bs1 ∧ StepO evO bs bad s.e bs1 bad1 ∧ s.e.vs.length ≤ 16 ∧ St F h h' [RP t p a1 l1 c1 bad1, VV s.a s.e.vs.length s.c s.e.vs]) := by
  refine vf76 _ h _ ?_
  unfold F76
  have k := St.start k0
  have hlen := r.len
  have hlc := r.lc
  have hbig := r.big
  refine k.vnew fun b1 h2 k => VSome.mk ⟨_, k.rd (by rfl), ?_⟩
  cases bad
  rotate_left
  · refine cond_true rfl (k.vall (by rfl) (by rfl) fun h5 k => ⟨_, k.rd (by rfl), _, k.rd (by rfl), _, _, _, k.rd (by rfl), ⟨none, 0, noEv⟩, a, l, c, bs, true, rfl, .refl, .spoilt, Nat.zero_le _, ?_⟩)
    exact (k.drop.vnil 134 (sz := 4) (by omega)).pull1
  refine cond_false rfl (VSome.mk ⟨_, _, _, k.rd (by rfl), ?_⟩)
  refine CallsH.mono (decode_spec (bs := bs) (hw.at k.ext fun b hb => .inl hb).sl.ro (r.ro.mod k.ext).sl hlen hlc hbig) ?_
  rintro _ h12 ⟨a', c', rfl, kd⟩
  have k := k.add1 kd
  have hvl := evR_len (b := bs)
  refine ⟨_, _, _, _, _, _, _, rfl, k.vnew fun b18 h19 k => k.vall (by rfl) (by rfl) fun h20 k => ?_⟩
  cases hg : evR bs with
  | err e2 =>
    have hd : decB bs = (noEv, 0, e2) := by unfold decB; rw [hg]
    have he2 : e2 ≠ 0 := Bad.ev _ _ hg
    rw [hd] at k ⊢
    refine cond_true (by simpa using he2) (VSome.mk (k.vst (Nat.le_of_ble_eq_true (by rfl)) fun h22 k => k.vall (by rfl) (by rfl) fun h23 k => ⟨_, k.rd (by rfl), _, k.rd (by rfl), _, _, _, k.rd (by rfl), ⟨none, 0, noEv⟩, a, l, c, bs, true, rfl, .refl, .fail fun _ => ?_, Nat.zero_le _, ?_⟩))
    · unfold evO ofR
      rw [hg]
    · exact ((k.drop.drop.drop).vnil 134 (sz := 4) (by omega)).pull1
  | ok x n =>
    have hd : decB bs = (x, n, 0) := by unfold decB; rw [hg]
    have hle := Form.ev.le hg
    rw [hd] at k hvl ⊢
    refine cond_false rfl (VSome.mk ⟨_, _, _, k.rd (by rfl), ?_⟩)
    refine cutFront hlen (n := n) rfl rfl rfl (by omega) hlc fun a1 nx => VSome.mk (k.vst (Nat.le_of_ble_eq_true (by rfl)) fun h31 k => ⟨_, k.rd (by rfl), _, k.rd (by rfl), _, _, _, k.rd (by rfl), k.vall (by rfl) (by rfl) fun h35 k => ⟨_, k.rd (by rfl), _, k.rd (by rfl), _, _, _, k.rd (by rfl), ⟨a', c', x⟩, a1, _, _, _, false, rfl, nx, .ok ?_, hvl, ?_⟩⟩)
    · unfold evO ofR
      rw [hg]
    · exact (k.sel 4 [3, 1, 0, 2] rfl (by decide) (L' := [_, _, _, _]) (by rfl)).only2
end Go.Proofs.YtgdgebmlcgohhaaDoor.F
