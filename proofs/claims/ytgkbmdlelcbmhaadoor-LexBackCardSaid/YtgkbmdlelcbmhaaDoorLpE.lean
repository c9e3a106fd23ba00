/- lex, the plain law: the chapter's examples. -/
import Derived.Test.YtgkbmdlelcbmhaaDoorLpA
import Derived.Test.YtgkbmdlelcbmhaaDoorPLexx2
namespace Go.Proofs.YtgkbmdlelcbmhaaDoor
open Go.RowKit Go.Proofs.YtgkbmdlelcbmhaaDoor.PLex Go.Proofs.YtgkbmdlelcbmhaaDoorW.PrintWords
set_option linter.all false

set_option maxRecDepth 100000 in
theorem alive_true : rookerylaw15_alive.f 60 = some true := by kernel_rfl
theorem alive_ev : Ev (fun k => rookerylaw15_alive.f k) true := Ev.of (rookerylaw15_alive.mono) alive_true

end Go.Proofs.YtgkbmdlelcbmhaaDoor
