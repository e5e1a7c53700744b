/- Which calls are handed an owned slice: the argument's place, the element's type and size. -/
import Derived.Test.YtbdohnigbnhjnaaVkFun
import Derived.Test.YtbdohnigbnhjnaaProg
set_option linter.unusedSimpArgs false
set_option linter.unusedVariables false
set_option linter.unusedSectionVars false
namespace Go.Proofs.Ytbdohnigbnhjnaa.Vc
open Go Go.Vk Go.Proofs
def own : FuncId → List (Nat × TypeId × Nat) := fun f => if f = 46 then [(0, 5, 1)] else if f = 1000000 then [(110, 0, 0), (111, 0, 0), (112, 0, 0), (113, 0, 0), (114, 0, 0)] else []
end Go.Proofs.Ytbdohnigbnhjnaa.Vc
