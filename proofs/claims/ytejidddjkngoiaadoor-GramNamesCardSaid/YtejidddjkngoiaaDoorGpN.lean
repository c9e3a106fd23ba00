/- gram: the names of a tree: those of the first 4000 parts in their order. -/
import Derived.Test.YtejidddjkngoiaaDoorGmZ
namespace Go.Proofs.YtejidddjkngoiaaDoor
open Go.RowKit
set_option linter.all false

mutual
/-- A tree and all in it, in their order. -/
def preT : GTree → List GTree
  | .node kd s n b l => .node kd s n b l :: preL l
def preL : List GTree → List GTree
  | [] => []
  | t :: r => preT t ++ preL r
end
def nameOf : GTree → Option ByteArray
  | .node kd s _ _ _ => if named kd then some s else none
mutual
/-- The names are those of the first 4000 met. -/
theorem nmT_pre : ∀ (t : GTree) (cnt : Nat) (out : List ByteArray), cnt ≤ 4000 → nmT t (cnt, out) = (min (cnt + (preT t).length) 4000, out ++ ((preT t).take (4000 - cnt)).filterMap nameOf)
  | .node kd s n b l, cnt, out, h => by
    unfold nmT preT
    by_cases hc : cnt = 4000
    · subst hc
      simp
    · rw [if_neg hc, nmL_pre l (cnt + 1) _ (by omega)]
      obtain ⟨m, hm⟩ : ∃ m, 4000 - cnt = m + 1 := ⟨4000 - cnt - 1, by omega⟩
      rw [hm, show 4000 - (cnt + 1) = m by omega, List.take_succ_cons, List.filterMap_cons]
      refine Prod.ext ?_ ?_
      · simp
        omega
      · simp only [nameOf]
        cases named kd <;> simp
theorem nmL_pre : ∀ (l : List GTree) (cnt : Nat) (out : List ByteArray), cnt ≤ 4000 → nmL l (cnt, out) = (min (cnt + (preL l).length) 4000, out ++ ((preL l).take (4000 - cnt)).filterMap nameOf)
  | [], cnt, out, h => by
    unfold nmL preL
    simp
    omega
  | t :: r, cnt, out, h => by
    unfold nmL preL
    rw [nmT_pre t cnt out h, nmL_pre r _ _ (by omega), List.take_append, List.filterMap_append]
    refine Prod.ext ?_ ?_
    · simp
      omega
    · simp only [List.append_assoc]
      rw [show 4000 - min (cnt + (preT t).length) 4000 = 4000 - cnt - (preT t).length by omega]
end
end Go.Proofs.YtejidddjkngoiaaDoor
