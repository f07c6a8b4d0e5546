/- Rows of wire's laws: what they stand on. Conditions: none. -/
import Derived.Test.YtofaihacmoacjaaDoorWL
import Derived.Test.YtofaihacmoacjaaDoorWO
namespace Go.Proofs.YtofaihacmoacjaaDoor.F
open Go Go.VC
theorem u8_of {n : Int} (h : (Lit.int .u8 n).wf = true) : ∃ t : UInt8, n = (t.toNat : Int) := by
  have h8 := wf_u8 h
  refine ⟨UInt8.ofNat n.toNat, ?_⟩
  rw [UInt8.toNat_ofNat']
  omega
end Go.Proofs.YtofaihacmoacjaaDoor.F
