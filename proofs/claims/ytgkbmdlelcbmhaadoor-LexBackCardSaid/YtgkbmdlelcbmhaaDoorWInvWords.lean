import Derived.Test.YtgkbmdlelcbmhaaDoorWInv
import Derived.Test.YtgkbmdlelcbmhaaDoorWFootNe
namespace Go.Proofs.YtgkbmdlelcbmhaaDoorW.PrintWords
open Go.RowKit
end Go.Proofs.YtgkbmdlelcbmhaaDoorW.PrintWords
namespace Go.Proofs.YtgkbmdlelcbmhaaDoorW.PrintLast
section
variable {ops : Array Oper} {a : Act} {o og : Oper} {g : Nat} {t : Tmp} {u : Bool}
end
end Go.Proofs.YtgkbmdlelcbmhaaDoorW.PrintLast
