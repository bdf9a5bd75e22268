/- What the walks of this claim lean on. -/
import Derived.Test.YtfiflkjniodbeaaGreatDoorWWords
import Derived.Laws.StructEq
/-! ### 53. '==' of structs as_ one Bool -/
namespace Go.Proofs.YtfiflkjniodbeaaGreatDoorW.PrintWords
open Go.RowKit
section
variable {P : Program} {d : Nat} {xs ys : Array Value} {f : Field} {fs : List Field} {a b : Value} {r s : Bool} {w : World}
end
end Go.Proofs.YtfiflkjniodbeaaGreatDoorW.PrintWords
