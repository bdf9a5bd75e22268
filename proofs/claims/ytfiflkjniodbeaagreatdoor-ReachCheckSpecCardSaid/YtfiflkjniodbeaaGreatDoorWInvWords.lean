/- What the walks of this claim lean on. -/
import Derived.Test.YtfiflkjniodbeaaGreatDoorWInv
import Derived.Test.YtfiflkjniodbeaaGreatDoorWFootNe
namespace Go.Proofs.YtfiflkjniodbeaaGreatDoorW.PrintWords
open Go.RowKit
end Go.Proofs.YtfiflkjniodbeaaGreatDoorW.PrintWords
namespace Go.Proofs.YtfiflkjniodbeaaGreatDoorW.PrintLast
section
variable {ops : Array Oper} {a : Act} {o og : Oper} {g : Nat} {t : Tmp} {u : Bool}
end
end Go.Proofs.YtfiflkjniodbeaaGreatDoorW.PrintLast
