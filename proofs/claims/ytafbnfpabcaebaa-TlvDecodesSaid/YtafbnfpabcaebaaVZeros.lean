/- Words of the kit's print (module Derived/Print/Zeros), as far as this claim's texts reach them; laid by trim.py, a program of this session. -/
import Derived.Test.YtafbnfpabcaebaaVApart
import Derived.Test.YtafbnfpabcaebaaVArr
namespace Go.Proofs.YtafbnfpabcaebaaW.PrintWords
open Go.RowKit
section
variable {P : Program}
end
namespace Kd
section
variable {P : Program} {ops : Array Oper} {rest : List Oper} {o : Oper} {a : Act} {Q : Exit → Act → World → Prop} {Kc : Act → World → Prop} {α : Type}
end
section
variable {α : Type} {d : Kd α} {e : Nat} {w : World} {base : Nat} {ok : Nat → Prop} {v : Value} {xs : List α}
end
section
variable {P : Program} {ops : Array Oper} {rest : List Oper} {o : Oper} {a : Act} {Q : Exit → Act → World → Prop} {Kc : Act → World → Prop} {α : Type}
end
end Kd
end Go.Proofs.YtafbnfpabcaebaaW.PrintWords

