/- Words of the kit's print (module Derived/Print/InvWords), as far as this claim's texts reach them; laid by trim.py, a program of this session. -/
import Derived.Test.YtafbnfpabcaebaaVInv
import Derived.Test.YtafbnfpabcaebaaVFootNe
namespace Go.Proofs.YtafbnfpabcaebaaW.PrintWords
open Go.RowKit
end Go.Proofs.YtafbnfpabcaebaaW.PrintWords
namespace Go.Proofs.YtafbnfpabcaebaaW.PrintLast
section
variable {ops : Array Oper} {a : Act} {o og : Oper} {g : Nat} {t : Tmp} {u : Bool}
end
end Go.Proofs.YtafbnfpabcaebaaW.PrintLast

