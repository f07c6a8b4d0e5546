/- Package proto: the table of what each kind speaks of, the fields as function values. Conditions: none. -/
import Derived.Test.YtgdgebmlcgohhaaDoorQA
namespace Go.Proofs.YtgdgebmlcgohhaaDoor.F
open Go Go.VC Go.Proofs
set_option linter.unusedSimpArgs false
set_option linter.unusedVariables false
set_option maxRecDepth 100000
attribute [local irreducible] CallsH RunsTo PureTo

variable {S F G : Nat → Prop} {h0 h h1 : Heap} {L R L' : List A} {a b a1 a2 : Option Addr} {l c l1 c1 l2 c2 p t : Nat} {bs cs bs1 bs2 : List UInt8} {err e1 : Int} {v : Val} {bad bad1 : Bool} {q q2 : Rq}
/-- The table of what each kind speaks of, in memory. -/
def Spk (F : Nat → Prop) (h : Heap) : Prop := ∀ k : Nat, k < 13 → ∃ a c, Ro F h (some ⟨0, k, none⟩) [.slice a (spk k).length c] ∧ Ro F h a ((spk k).map fun i : Nat => Value.int .i64 (i : Int))
theorem Spk.at (k : Spk S h0) (m : Mod S h0 h) (hf : ∀ b, F b → S b ∨ h0.size ≤ b) : Spk F h := fun i hi => by
  obtain ⟨a, c, r1, r2⟩ := k i hi
  exact ⟨a, c, r1.at m hf, r2.at m hf⟩
theorem Spk.in (k : Spk S h0) (s : St S h0 h L) : Spk none_ h := k.at s.ext fun _ h => h.elim
theorem Spk.one (k : Spk F h) {n : Nat} (hn : n < 13) {K : Addr → Prop} (q : ∀ a c, cellH h ⟨0, n, none⟩ = some (.slice a (spk n).length c) → Ro F h a ((spk n).map fun i : Nat => Value.int .i64 (i : Int)) → K ⟨0, n, none⟩) : VIdx (some ⟨0, 0, none⟩) 13 (n : Int) 1 K := by
  obtain ⟨a, c, r1, r2⟩ := k n hn
  refine ⟨by omega, by omega, VSome.mk ?_⟩
  rw [Int.toNat_natCast, VC.add_plain, Nat.zero_add, Nat.mul_one]
  refine q a c ?_ r2
  obtain ⟨ad, e, hc, _⟩ := r1 0 _ rfl
  cases e
  rw [VC.add_plain] at hc
  exact hc
theorem known_spec (k : Int) : CallsH Tryd.prog 24 #[.int .i64 k] h (fun v h' => v = .bool (decide (known k)) ∧ h' = h) := by
  refine vf24 _ h _ ?_
  unfold F24
  refine cond_split (fun hc => ⟨?_, rfl⟩) (fun hc => ⟨?_, rfl⟩)
  · have hc : k ≥ 1 := of_decide_eq_true hc
    have : (k < 13) ↔ known k := by unfold known; omega
    rw [decide_eq_decide.2 this]
  · have hc : ¬ k ≥ 1 := of_decide_eq_false hc
    rw [decide_eq_false (by unfold known; omega)]
theorem mem_take_next {α : Type} [DecidableEq α] {xs : List α} {j : Nat} {x y : α} (h : xs[j]? = some x) : y ∈ xs.take (j + 1) ↔ y ∈ xs.take j ∨ y = x := by
  rw [take_next h, List.mem_append, List.mem_singleton]
theorem speaks_spec {n i : Nat} (hs : Spk none_ h) (hn : n < 13) : CallsH Tryd.prog 26 #[.int .i64 (n : Int), .int .i64 (i : Int)] h (fun v h' => v = .bool (decide (i ∈ spk n)) ∧ h' = h) := by
  refine vf26 _ _ h _ ?_
  unfold F26
  refine hs.one hn fun a c ha r => ⟨_, _, _, ha, ?_⟩
  refine ⟨fun m h' x y => ∃ j : Nat, y = j ∧ j ≤ (spk n).length ∧ m = (spk n).length - j ∧ h' = h ∧ i ∉ (spk n).take j, ⟨_, 0, rfl, by omega, rfl, rfl, by simp⟩, ?_⟩
  rintro m h' _ x y ⟨j, rfl, hj, rfl, rfl, hi⟩
  refine cond_split (fun hc => ?_) (fun hc => ?_)
  · have hjl : j < (spk n).length := Int.ofNat_lt.1 (of_decide_eq_true hc)
    refine r.sl.one (f := fun i : Nat => Value.int .i64 (i : Int)) rfl (by omega) (by omega) fun ad z hz hcz => ⟨_, hcz, ?_⟩
    rw [Int.toNat_natCast] at hz
    refine cond_split (fun hc => ?_) (fun hc => ?_)
    · have hc : z = i := by
        have : (z : Int) = i := by simpa using hc
        omega
      subst hc
      exact ⟨by rw [decide_eq_true (List.mem_of_getElem? hz)], rfl⟩
    · have hc : z ≠ i := by
        have : (z : Int) ≠ i := by simpa using hc
        omega
      refine ⟨_, by omega, j + 1, wrap_nat hjl (by have := spk_cases n; rcases this with e | e | e | e | e | e | e <;> rw [e] <;> simp), hjl, rfl, rfl, ?_⟩
      rw [mem_take_next hz]
      rintro (h1 | h1)
      · exact hi h1
      · exact hc h1.symm
  · have hjl : j = (spk n).length := by
      have : ¬ (j : Int) < (spk n).length := of_decide_eq_false hc
      omega
    subst hjl
    rw [List.take_of_length_le (Nat.le_refl _)] at hi
    exact ⟨by rw [decide_eq_false hi], rfl⟩
/-! ### The fields' functions -/
abbrev fnV (f : Nat) : Value := .func (.func f) #[] #[]
abbrev fldV : List Value := [fnV 61, fnV 62, fnV 63, fnV 64, fnV 65, fnV 66, fnV 67, fnV 68, fnV 69, fnV 70, fnV 71, fnV 74]
theorem fields_spec : CallsH Tryd.prog 25 #[] h (fun v h' => v = .agg fldV.toArray ∧ Ext h h') := by
  refine vf25 h _ ?_
  unfold F25
  exact (St.fresh h).vnew fun _ _ k => k.vall (by rfl) (by rfl) fun _ k => ⟨_, k.rd (by rfl), _, k.rd (by rfl), _, k.rd (by rfl), _, k.rd (by rfl), _, k.rd (by rfl), _, k.rd (by rfl), _, k.rd (by rfl), _, k.rd (by rfl), _, k.rd (by rfl), _, k.rd (by rfl), _, k.rd (by rfl), _, k.rd (by rfl), rfl, k.ext⟩
def fE (i : Nat) : Nat := match i with | 0 => 61 | 1 => 64 | 2 => 67 | _ => 70
def fW (i : Nat) : Nat := match i with | 0 => 62 | 1 => 65 | 2 => 68 | _ => 71
def fR (i : Nat) : Nat := match i with | 0 => 63 | 1 => 66 | 2 => 69 | _ => 74
theorem inv_bool {i : Nat} (hi : i < 4) {args : Array Value} {K : KV} (k : CallsH Tryd.prog (fE i) args h fun v h' => ∃ b : Bool, v = .bool b ∧ K (.bool b) h') : VInvoke Tryd.prog (fnV (fE i)) args h K := by
  have e : ∀ f, enters Tryd.prog f = some [4] → (CallsH Tryd.prog f args h fun v h' => ∃ b : Bool, v = .bool b ∧ K (.bool b) h') → VInvoke Tryd.prog (fnV f) args h K := fun f hf k => by
    show (match enters Tryd.prog f with | some ts => CallsH Tryd.prog f (#[] ++ args ++ #[]) h (answers Tryd.prog ts K) | none => False)
    rw [hf]
    have ea : (#[] : Array Value) ++ args ++ #[] = args := by simp
    rw [ea]
    refine CallsH.mono k fun v h' ⟨b, e1, q⟩ => ?_
    show anyOf Tryd.prog 4 fun u => v = u ∧ K u h'
    have hz : (Tryd.prog.info? 4).bind (·.zero) = some (.bool false) := by kernel_rfl
    unfold anyOf
    rw [hz]
    exact ⟨b, e1, q⟩
  refine e _ ?_ k
  match i, hi with
  | 0, _ => show enters Tryd.prog 61 = some [4]; kernel_rfl
  | 1, _ => show enters Tryd.prog 64 = some [4]; kernel_rfl
  | 2, _ => show enters Tryd.prog 67 = some [4]; kernel_rfl
  | 3, _ => show enters Tryd.prog 70 = some [4]; kernel_rfl
theorem inv_none {f : Nat} (hf : enters Tryd.prog f = some []) {args : Array Value} {K : KV} (k : CallsH Tryd.prog f args h fun v h' => v = .tuple #[] ∧ K (.tuple #[]) h') : VInvoke Tryd.prog (fnV f) args h K := by
  show (match enters Tryd.prog f with | some ts => CallsH Tryd.prog f (#[] ++ args ++ #[]) h (answers Tryd.prog ts K) | none => False)
  rw [hf]
  have ea : (#[] : Array Value) ++ args ++ #[] = args := by simp
  rw [ea]
  exact CallsH.mono k fun v h' q => q
theorem enW {i : Nat} (hi : i < 4) : enters Tryd.prog (fW i) = some [] := by
  match i, hi with
  | 0, _ => show enters Tryd.prog 62 = some []; kernel_rfl
  | 1, _ => show enters Tryd.prog 65 = some []; kernel_rfl
  | 2, _ => show enters Tryd.prog 68 = some []; kernel_rfl
  | 3, _ => show enters Tryd.prog 71 = some []; kernel_rfl
theorem enR {i : Nat} (hi : i < 4) : enters Tryd.prog (fR i) = some [] := by
  match i, hi with
  | 0, _ => show enters Tryd.prog 63 = some []; kernel_rfl
  | 1, _ => show enters Tryd.prog 66 = some []; kernel_rfl
  | 2, _ => show enters Tryd.prog 69 = some []; kernel_rfl
  | 3, _ => show enters Tryd.prog 74 = some []; kernel_rfl
theorem index76 {j : Nat} {K : Value → Prop} (hj : j < 4) (q : K (.agg #[fnV (fE j), fnV (fW j), fnV (fR j)])) : PureTo Tryd.prog (Instr.index 76 (.agg fldV.toArray) (.int .i64 (j : Int))) K := by
  refine .ok (fun w => ?_) q
  match j, hj with
  | 0, _ => show (Instr.index 76 (.agg fldV.toArray) (.int .i64 0)).run Tryd.prog w = .ok (.agg #[fnV 61, fnV 62, fnV 63]) w; kernel_rfl
  | 1, _ => show (Instr.index 76 (.agg fldV.toArray) (.int .i64 1)).run Tryd.prog w = .ok (.agg #[fnV 64, fnV 65, fnV 66]) w; kernel_rfl
  | 2, _ => show (Instr.index 76 (.agg fldV.toArray) (.int .i64 2)).run Tryd.prog w = .ok (.agg #[fnV 67, fnV 68, fnV 69]) w; kernel_rfl
  | 3, _ => show (Instr.index 76 (.agg fldV.toArray) (.int .i64 3)).run Tryd.prog w = .ok (.agg #[fnV 70, fnV 71, fnV 74]) w; kernel_rfl
/-- A request's cells. -/
abbrev rqV (q : Rq) (na : Option Addr) (nc : Nat) (ea : Option Addr) (ec : Nat) : List Value := [.int .u32 (q.id : Int), .int .i64 q.k, .string (bA q.name), .string (bA q.text), .slice na q.names.length nc, .slice ea q.evs.length ec]
abbrev RqB (b : Nat) (q : Rq) (na : Option Addr) (nc : Nat) (ea : Option Addr) (ec : Nat) : A := A.blk b (rqV q na nc ea ec).toArray 26
theorem len0 {α : Type} [DecidableEq α] (xs : List α) : ((xs.length : Int) == 0) = decide (xs = []) := by
  cases xs with
  | nil => rfl
  | cons x xs =>
    rw [decide_eq_false (by simp)]
    have : ((x :: xs).length : Int) ≠ 0 := by rw [List.length_cons]; omega
    simpa using this
theorem emp_spec {i : Nat} {na ea : Option Addr} {nc ec b1 : Nat} (hi : i < 4) (k : St S h0 h L) [ib : InB L b1 (rqV q na nc ea ec).toArray 26] : CallsH Tryd.prog (fE i) #[.pointer (some ⟨b1, 0, none⟩)] h (fun v h' => v = .bool (empF i q) ∧ h' = h) := by
  match i, hi with
  | 0, _ =>
    refine vf61 _ h _ ?_
    unfold F61
    exact VSome.mk ⟨_, St.rd (q := ib) k (by rfl), by rw [eqNil]; rfl, rfl⟩
  | 1, _ =>
    refine vf64 _ h _ ?_
    unfold F64
    exact VSome.mk ⟨_, St.rd (q := ib) k (by rfl), by rw [eqNil]; rfl, rfl⟩
  | 2, _ =>
    refine vf67 _ h _ ?_
    unfold F67
    exact VSome.mk ⟨_, _, _, St.rd (q := ib) k (by rfl), by rw [len0]; rfl, rfl⟩
  | 3, _ =>
    refine vf70 _ h _ ?_
    unfold F70
    exact VSome.mk ⟨_, _, _, St.rd (q := ib) k (by rfl), by rw [len0]; rfl, rfl⟩
/-- What a request's lists are, where others hold them. -/
structure RqRo (F : Nat → Prop) (h : Heap) (q : Rq) (na ea : Option Addr) : Prop where
  names : RoX texE F h na q.names.length q.names
  evs : RoX evE F h ea q.evs.length q.evs
theorem RqRo.at {na ea : Option Addr} (k : RqRo S h0 q na ea) (m : Mod S h0 h) (hf : ∀ b, F b → S b ∨ h0.size ≤ b) : RqRo F h q na ea := ⟨k.names.at m hf, k.evs.at m hf⟩
/-- What is asked of a request's size. -/
structure RqOk (q : Rq) : Prop where
  id : q.id < 4294967296
  kind : rng64 q.k
  rng : ∀ e ∈ q.evs, rngE e ∧ e.vs.length ≤ 1099511627776
  evs : q.evs.length ≤ 1099511627776
  big : (putF 0 q).length + (putF 1 q).length + (putF 2 q).length + (putF 3 q).length ≤ 1099511627776
def fltF (i : Nat) (q : Rq) : Int := match i with | 0 => 0 | 1 => 0 | 2 => 0 | _ => firstE faultE q.evs
theorem putW_step {i : Nat} {na ea : Option Addr} {nc ec b1 : Nat} (hi : i < 4) (hw : Wd F h) (ok : RqOk q) (r : RqRo F h q na ea) (k0 : Holds [WB p bs err, RqB b1 q na nc ea ec] F h) (hb : bs.length ≤ 1099511627776 * 4) :
    CallsH Tryd.prog (fW i) #[.pointer (some ⟨p, 0, none⟩), .pointer (some ⟨b1, 0, none⟩)] h (fun v h' => v = .tuple #[] ∧ St F h h' [WB p (bs ++ putF i q) (orE err (fltF i q)), RqB b1 q na nc ea ec]) := by
  have k := St.start k0
  have hbig := ok.big
  match i, hi with
  | 0, _ =>
    refine vf62 _ _ h _ ?_
    unfold F62
    refine VSome.mk ⟨_, k.rd (by rfl), ?_⟩
    obtain ⟨F', G, kF, kG, d, hF, back⟩ := k.frameA
    have hl : (putF 0 q).length = (putS q.name).length := rfl
    refine CallsH.mono (texW_step kF (by omega)) ?_
    rintro _ h4 ⟨rfl, k2⟩
    refine ⟨rfl, rfl, ?_⟩
    show St F h h4 [WB p (bs ++ putS q.name) (orE err 0), _]
    rw [orE_zero]; exact back k2
  | 1, _ =>
    refine vf65 _ _ h _ ?_
    unfold F65
    refine VSome.mk ⟨_, k.rd (by rfl), ?_⟩
    obtain ⟨F', G, kF, kG, d, hF, back⟩ := k.frameA
    have hl : (putF 1 q).length = (putS q.text).length := rfl
    refine CallsH.mono (texW_step kF (by omega)) ?_
    rintro _ h4 ⟨rfl, k2⟩
    refine ⟨rfl, rfl, ?_⟩
    show St F h h4 [WB p (bs ++ putS q.text) (orE err 0), _]
    rw [orE_zero]; exact back k2
  | 2, _ =>
    refine vf68 _ _ h _ ?_
    unfold F68
    refine VSome.mk ⟨_, _, _, k.rd (by rfl), ?_⟩
    obtain ⟨F', G, kF, kG, d, hF, back⟩ := k.frameA
    have hl : (putF 2 q).length = (putL putS q.names).length := rfl
    refine CallsH.mono (texsW_step kF (r.at k.ext hF).names (fun _ _ => trivial) (by omega)) ?_
    rintro _ h4 ⟨rfl, k2⟩
    refine ⟨rfl, rfl, ?_⟩
    rw [first_zero] at k2
    exact back k2
  | 3, _ =>
    refine vf71 _ _ h _ ?_
    unfold F71
    refine VSome.mk ⟨_, _, _, k.rd (by rfl), ?_⟩
    obtain ⟨F', G, kF, kG, d, hF, back⟩ := k.frameA
    have hl : (putF 3 q).length = (putL encF q.evs).length := rfl
    refine CallsH.mono (evsW_step (hw.at k.ext hF) ok.evs kF (r.at k.ext hF).evs ok.rng (by omega)) ?_
    rintro _ h4 ⟨rfl, k2⟩
    exact ⟨rfl, rfl, back k2⟩
end Go.Proofs.YtgdgebmlcgohhaaDoor.F
