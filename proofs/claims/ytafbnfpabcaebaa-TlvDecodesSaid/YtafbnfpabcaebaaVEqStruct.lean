/- Words of the kit's print (module Derived/Print/EqStruct), as far as this claim's texts reach them; laid by trim.py, a program of this session. -/
import Derived.Test.YtafbnfpabcaebaaVWords
import Derived.Laws.StructEq
namespace Go.Proofs.YtafbnfpabcaebaaW.PrintWords
open Go.RowKit
section
variable {P : Program} {d : Nat} {xs ys : Array Value} {f : Field} {fs : List Field} {a b : Value} {r s : Bool} {w : World}
end
end Go.Proofs.YtafbnfpabcaebaaW.PrintWords

