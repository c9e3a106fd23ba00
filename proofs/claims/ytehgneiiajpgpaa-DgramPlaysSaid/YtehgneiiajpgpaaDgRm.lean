/- dgram: the document's Do, any call. -/
import Derived.Test.YtehgneiiajpgpaaDgRl
import Derived.Test.YtehgneiiajpgpaaDgCounts
namespace Go.Proofs.Ytehgneiiajpgpaa
open Go.RowKit
set_option linter.all false
set_option maxHeartbeats 2000000
set_option maxRecDepth 100000

theorem rdo_c (w : World) (P : Nat → Prop) (A A' : Option Addr) (c c' : Nat) (M : Ref0) (h : RAt w P (.slice A M.way.length c) (.slice A' M.boxes.length c') M) (hl : M.way.length ≤ 1024) (hlb : M.boxes.length ≤ 99999) (o : Op0) (hkd : 0 ≤ o.kd ∧ o.kd ≤ 6) (hm : 0 ≤ o.m ∧ o.m < 4294967296) (Ab : Option Addr) (cb : Nat) (b : List Int) (hb : BytesAt w (.slice Ab b.length cb) b) (hby : ∀ x ∈ b, 0 ≤ x ∧ x < 256) (hbl : b.length ≤ 140737488355328) :
    Calls Try.prog 24 #[refAgg M (.slice A M.way.length c) (.slice A' M.boxes.length c'), .agg (opCells o Ab b.length cb)] w (RDid w P (rdo0 M.abs o b)) := by
  have hk : o.kd = 0 ∨ o.kd = 1 ∨ o.kd = 2 ∨ o.kd = 3 ∨ o.kd = 4 ∨ o.kd = 5 ∨ o.kd = 6 := by omega
  rcases hk with k | k | k | k | k | k | k
  · rw [show rdo0 M.abs o b = rsend0 M.abs o.f o.t b by simp [rdo0, k]]
    exact rdo_0 w P A A' c c' M h hl o k Ab cb b hb hby hbl
  · rw [show rdo0 M.abs o b = rdel0 M.abs o.i by simp [rdo0, k]]
    exact rdo_1 w P A A' c c' M h hl hlb o k Ab cb b.length
  · rw [show rdo0 M.abs o b = rdrop0 M.abs o.i by simp [rdo0, k]]
    exact rdo_2 w P A A' c c' M h hl hlb o k Ab cb b.length
  · rw [show rdo0 M.abs o b = rtwin0 M.abs o.i by simp [rdo0, k]]
    exact rdo_3 w P A A' c c' M h hl hlb o k Ab cb b.length
  · rw [show rdo0 M.abs o b = rspoil0 M.abs o.i o.at' o.m by simp [rdo0, k]]
    exact rdo_4 w P A A' c c' M h hl hlb o k hm Ab cb b.length
  · rw [show rdo0 M.abs o b = rtake0 M.abs o.f by simp [rdo0, k]]
    exact rdo_5 w P A A' c c' M h hl hlb o k Ab cb b.length
  · rw [show rdo0 M.abs o b = rwipe0 M.abs o.f by simp [rdo0, k]]
    exact rdo_6 w P A A' c c' M h hl hlb o k Ab cb b.length
end Go.Proofs.Ytehgneiiajpgpaa
