/- Which calls are handed an owned slice: the argument's place, the element's type and size. -/
import Derived.Test.YtokbcminleemaaaVkFun
import Derived.Test.YtokbcminleemaaaProg
set_option linter.unusedSimpArgs false
set_option linter.unusedVariables false
set_option linter.unusedSectionVars false
namespace Go.Proofs.Ytokbcminleemaaa.Vc
open Go Go.Vk Go.Proofs
def own : FuncId → List (Nat × TypeId × Nat) := fun f => if f = 1000000 then [(114, 0, 0), (115, 0, 0), (116, 0, 0), (117, 0, 0), (118, 0, 0)] else []
end Go.Proofs.Ytokbcminleemaaa.Vc
