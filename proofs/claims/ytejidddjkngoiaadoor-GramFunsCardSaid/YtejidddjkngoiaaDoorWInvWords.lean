import Derived.Test.YtejidddjkngoiaaDoorWInv
import Derived.Test.YtejidddjkngoiaaDoorWFootNe
namespace Go.Proofs.YtejidddjkngoiaaDoorW.PrintWords
open Go.RowKit
end Go.Proofs.YtejidddjkngoiaaDoorW.PrintWords
namespace Go.Proofs.YtejidddjkngoiaaDoorW.PrintLast
section
variable {ops : Array Oper} {a : Act} {o og : Oper} {g : Nat} {t : Tmp} {u : Bool}
end
end Go.Proofs.YtejidddjkngoiaaDoorW.PrintLast
