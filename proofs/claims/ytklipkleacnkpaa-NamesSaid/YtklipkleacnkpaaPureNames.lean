/- What is proved: every constant of package api has the number that the document says (the law Names, a closed sentence, answers true). Conditions: none. -/
import Derived.Test.YtklipkleacnkpaaPNamesx1
import Derived.KernelRfl
namespace Go.Proofs.Ytklipkleacnkpaa.Pure
open Go.RowKit Go.Proofs.Ytklipkleacnkpaa.PNames Go.Proofs.YtklipkleacnkpaaW.PrintWords Go.Proofs.YtklipkleacnkpaaW.PrintLast

/-- YOURS: ∃ k, refrainlaw0_Names.f k  = some true
What it reaches (each with k first where it has rounds; `.mono`: more rounds tell the same; `.l0`, ..: its loops, with `.mono_l`): refrainlaw0_num.f, refrainlaw0_errors.f, refrainlaw0_errnos.f, refrainlaw0_kinds.f, refrainlaw0_Names.f -/
theorem Names : refrainlaw0_Names.Pure := by
  exact ⟨100, by kernel_rfl⟩

end Go.Proofs.Ytklipkleacnkpaa.Pure
