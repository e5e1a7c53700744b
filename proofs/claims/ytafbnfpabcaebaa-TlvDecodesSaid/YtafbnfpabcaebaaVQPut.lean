/- Words of the kit's print (module Derived/Print/QPut), as far as this claim's texts reach them; laid by trim.py, a program of this session. -/
import Derived.Test.YtafbnfpabcaebaaVWords
import Derived.Test.YtafbnfpabcaebaaVLast
namespace Go.Proofs.YtafbnfpabcaebaaW.PrintWords
open Go.RowKit
namespace Kd
section
variable {α : Type} {d : Kd α} {e base g o n cap : Nat} {ok okp : Nat → Prop} {w W : World} {v : Value} {xs : List α}
end
section
variable {α : Type} {enc : α → Value} {h1 : ∀ x, (enc x).oneCell' = true} {e base g o n cap : Nat} {ok : Nat → Prop} {W : World} {xs : List α}
end
end Kd
end Go.Proofs.YtafbnfpabcaebaaW.PrintWords

