import Derived.Test.YtejidddjkngoiaaDoorWLast
import Derived.Test.YtejidddjkngoiaaDoorWWords
namespace Go.Proofs.YtejidddjkngoiaaDoorW.PrintLast
open Go.Proofs.YtejidddjkngoiaaDoorW.PrintWords (Aside0)
section
variable {md : Region.Mode} {ops : Array Oper} {T : Bool × List (List Nat × List Nat)} {l l' li lj lk : Array Bool} {ds : List Nat} {i j k : Nat}
end
end Go.Proofs.YtejidddjkngoiaaDoorW.PrintLast
