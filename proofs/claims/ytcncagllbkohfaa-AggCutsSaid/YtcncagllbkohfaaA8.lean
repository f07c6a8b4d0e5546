/- Package agg: Accs compared. Conditions: none. -/
import Derived.Test.YtcncagllbkohfaaA7
import Derived.Test.YtcncagllbkohfaaM6
namespace Go.Proofs.Ytcncagllbkohfaa.F
open Go Go.VC Go.Proofs
set_option linter.unusedSimpArgs false
set_option linter.unusedVariables false
set_option maxRecDepth 100000

def eqA (a b : Acc) : Bool := (a.c == b.c) && ((a.s == b.s) && ((a.lo == b.lo) && ((a.hi == b.hi) && true)))
theorem eqA_iff (a b : Acc) : eqA a b = true ↔ a = b := by
  cases a; cases b; simp [eqA]
theorem eqA_self (a : Acc) : eqA a a = true := (eqA_iff a a).2 rfl
theorem acc_fields (a b : Acc) (w : World) : (Op.eqFields 9999 #[.int .i64 a.c, .int .i64 a.s, .int .i64 a.lo, .int .i64 a.hi] #[.int .i64 b.c, .int .i64 b.s, .int .i64 b.lo, .int .i64 b.hi] (Try.prog.fieldsOf 39).toList).run Try.prog w = .ok (eqA a b) w := by
  simp only [Program.fieldsOf, Try.underlying39]
  unfold eqA
  have h2 := Try.underlying2
  refine eqF_cons rfl (by kernel_rfl) (by kernel_rfl) (run_equalIn_int w _ _ .i64 _ _ _ h2) (eqF_cons rfl (by kernel_rfl) (by kernel_rfl) (run_equalIn_int w _ _ .i64 _ _ _ h2) (eqF_cons rfl (by kernel_rfl) (by kernel_rfl) (run_equalIn_int w _ _ .i64 _ _ _ h2) (eqF_cons rfl (by kernel_rfl) (by kernel_rfl) (run_equalIn_int w _ _ .i64 _ _ _ h2) eqF_nil)))
theorem acc_eql {a b : Acc} {o1 o2 : Operand} {R : Value → Prop} (q : R (.bool (eqA a b))) : PureTo Try.prog (do eqGuard .eql 39 o1 o2 (.agg #[.int .i64 a.c, .int .i64 a.s, .int .i64 a.lo, .int .i64 a.hi]) (.agg #[.int .i64 b.c, .int .i64 b.s, .int .i64 b.lo, .int .i64 b.hi]); binOp .eql 39 (.agg #[.int .i64 a.c, .int .i64 a.s, .int .i64 a.lo, .int .i64 a.hi]) (.agg #[.int .i64 b.c, .int .i64 b.s, .int .i64 b.lo, .int .i64 b.hi])) R :=
  eql_struct (fs := Try.prog.fieldsOf 39) (by simp only [Program.fieldsOf, Try.underlying39]) (by kernel_rfl) (by kernel_rfl) (acc_fields a b) q
theorem acc_neq {a b : Acc} {o1 o2 : Operand} {R : Value → Prop} (q : R (.bool (!eqA a b))) : PureTo Try.prog (do eqGuard .neq 39 o1 o2 (.agg #[.int .i64 a.c, .int .i64 a.s, .int .i64 a.lo, .int .i64 a.hi]) (.agg #[.int .i64 b.c, .int .i64 b.s, .int .i64 b.lo, .int .i64 b.hi]); binOp .neq 39 (.agg #[.int .i64 a.c, .int .i64 a.s, .int .i64 a.lo, .int .i64 a.hi]) (.agg #[.int .i64 b.c, .int .i64 b.s, .int .i64 b.lo, .int .i64 b.hi])) R :=
  neq_struct (fs := Try.prog.fieldsOf 39) (by simp only [Program.fieldsOf, Try.underlying39]) (by kernel_rfl) (by kernel_rfl) (acc_fields a b) q
end Go.Proofs.Ytcncagllbkohfaa.F
