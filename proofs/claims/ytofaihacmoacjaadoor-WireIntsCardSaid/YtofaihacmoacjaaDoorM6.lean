/- Comparing structs. Conditions: none. -/
import Derived.Test.YtofaihacmoacjaaDoorM5
import Derived.Laws.StructEq
namespace Go.VC
open Go
set_option linter.unusedSimpArgs false
set_option linter.unusedVariables false
section
variable {P : Program} {d : Nat} {xs ys : Array Value} {f : Field} {fs : List Field} {a b : Value} {r s : Bool} {w : World}
theorem eqF_nil : (Op.eqFields d xs ys []).run P w = .ok true w := by simp [Op.eqFields]
theorem eqF_cons (hn : (f.name == "_") = false) (ha : (part f.type xs f.offset).run P w = .ok a w) (hb : (part f.type ys f.offset).run P w = .ok b w) (he : (Op.equalIn d f.type a b).run P w = .ok r w) (hr : (Op.eqFields d xs ys fs).run P w = .ok s w) : (Op.eqFields d xs ys (f :: fs)).run P w = .ok (r && s) w := by
  have hn' : f.name ≠ "_" := by simpa using hn
  rw [Op.eqFields]
  simp only [if_pos hn', Sem.run_bind, ha, hb, he, Result.andThen_ok]
  cases r
  · simp
  · simpa using hr
end
theorem eql_struct {P : Program} {t : TypeId} {fs : Array Field} {xs ys : Array Value} {o1 o2 : Operand} {r : Bool} {R : Value → Prop} (hu : P.underlying t = some (.struct fs)) (hp : P.stoodInHeld t = false) (hm : P.eqGuardType P.depth t = false)
    (h : ∀ w, (Op.eqFields 9999 xs ys fs.toList).run P w = .ok r w) (q : R (.bool r)) : PureTo P (do eqGuard .eql t o1 o2 (.agg xs) (.agg ys); binOp .eql t (.agg xs) (.agg ys)) R :=
  PureTo.ok (fun w => by
    have hf : P.fieldsOf t = fs := by simp [Program.fieldsOf, hu]
    rw [Sem.run_bind, run_eqGuard_agg w .eql t o1 o2 xs ys hm, Result.andThen_ok, run_eql_struct, run_equalIn_struct (P := P) w 9999 t xs ys (by rw [hf]; exact hu) hp, hf, h w]; rfl) q
theorem neq_struct {P : Program} {t : TypeId} {fs : Array Field} {xs ys : Array Value} {o1 o2 : Operand} {r : Bool} {R : Value → Prop} (hu : P.underlying t = some (.struct fs)) (hp : P.stoodInHeld t = false) (hm : P.eqGuardType P.depth t = false)
    (h : ∀ w, (Op.eqFields 9999 xs ys fs.toList).run P w = .ok r w) (q : R (.bool (!r))) : PureTo P (do eqGuard .neq t o1 o2 (.agg xs) (.agg ys); binOp .neq t (.agg xs) (.agg ys)) R :=
  PureTo.ok (fun w => by
    have hf : P.fieldsOf t = fs := by simp [Program.fieldsOf, hu]
    rw [Sem.run_bind, run_eqGuard_agg w .neq t o1 o2 xs ys hm, Result.andThen_ok, run_neq_struct, run_equalIn_struct (P := P) w 9999 t xs ys (by rw [hf]; exact hu) hp, hf, h w]; rfl) q
end Go.VC
