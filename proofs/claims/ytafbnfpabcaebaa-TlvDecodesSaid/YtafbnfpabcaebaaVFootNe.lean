/- Words of the kit's print (module Derived/Print/FootNe), as far as this claim's texts reach them; laid by trim.py, a program of this session. -/
import Derived.Test.YtafbnfpabcaebaaVN
namespace Go.Proofs.YtafbnfpabcaebaaW.PrintWords
open Go.RowKit
namespace Kd
section
variable {α : Type} {d : Kd α} {W : World} {g n : Nat} {S ok : Nat → Prop} {A : Option Addr} {ad : Addr} {xs : List α}
end
end Kd
end Go.Proofs.YtafbnfpabcaebaaW.PrintWords

