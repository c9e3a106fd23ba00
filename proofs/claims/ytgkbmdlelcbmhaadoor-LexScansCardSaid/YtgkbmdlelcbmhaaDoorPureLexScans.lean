/- lex, the plain law: LexScans, the pure statement. -/
import Derived.Test.YtgkbmdlelcbmhaaDoorLpC
import Derived.Test.YtgkbmdlelcbmhaaDoorLpE
import Derived.Test.YtgkbmdlelcbmhaaDoorPLexx8
namespace Go.Proofs.YtgkbmdlelcbmhaaDoor.Pure
open Go.RowKit Go.Proofs.YtgkbmdlelcbmhaaDoor Go.Proofs.YtgkbmdlelcbmhaaDoor.PLex Go.Proofs.YtgkbmdlelcbmhaaDoorW.PrintWords
set_option linter.all false

theorem LexScans : rookerylaw15_LexScans.Pure := by
  intro s _
  refine Ev.ex (a := true) ?_
  unfold rookerylaw15_LexScans.f
  refine Ev.bind alive_ev (Ev.iteT rfl (Ev.bind (scan_all s) (Ev.bind (rscan_all s) (Ev.bind (all_refl s) (Ev.iteT rfl (Ev.iteT rfl ?_))))))
  exact ⟨0, fun _ _ => by simp⟩
end Go.Proofs.YtgkbmdlelcbmhaaDoor.Pure
