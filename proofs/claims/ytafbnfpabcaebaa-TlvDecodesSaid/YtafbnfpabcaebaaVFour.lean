/- Words of the kit's print (module Derived/Print/Four), as far as this claim's texts reach them; laid by trim.py, a program of this session. -/
import Derived.Test.YtafbnfpabcaebaaVTab
namespace Go.Proofs.YtafbnfpabcaebaaW.PrintLast
section
variable {P : Program} {ops : Array Oper} {Q : Exit → Act → World → Prop} {md : Region.Mode} {S : World → Prop} {ds : List Nat} {T : Bool × List (List Nat × List Nat)}
end
end Go.Proofs.YtafbnfpabcaebaaW.PrintLast

