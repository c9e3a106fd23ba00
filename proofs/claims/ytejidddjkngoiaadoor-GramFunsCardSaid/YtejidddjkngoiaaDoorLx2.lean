/- lex: here, signs. -/
import Derived.Test.YtejidddjkngoiaaDoorLx1
namespace Go.Proofs.YtejidddjkngoiaaDoor
open Go.RowKit Go.Proofs.YtejidddjkngoiaaDoorW.PrintWords
set_option linter.all false

def hereB (s : ByteArray) (j : Int) : Int := if j < (s.size : Int) then bt s j else 0
set_option maxRecDepth 100000 in
theorem here_any (g : Nat) (s : ByteArray) (j : Int) (w : World) (hI : ScAt w g s j) (h0 : 0 ≤ j) :
    Calls Tryd.prog 24 #[.pointer (some ⟨g, 0, none⟩)] w fun e w' => e = .returned (.int .u8 (hereB s j)) ∧ ∃ n, w' = w.drewN n := by
  have c0 : w.cell? ⟨g, 0, none⟩ = some (.string s) := blk_cell hI 0
  have c1 : w.cell? ⟨g, 1, none⟩ = some (.int .i64 j) := blk_cell hI 1
  unfold hereB
  by_cases hlt : j < (s.size : Int)
  · have hlt1 : decide (j < (s.size : Int)) = true := decide_eq_true hlt
    have p9 := eq_true h0
    have q9 := eq_true hlt
    have hx := bt_at s j
    rw [if_pos hlt]
    clear hlt
    go_enter Tryd.func24, Tryd.ntmps24
    go_wp2_with fail
    go_quiet (fail)
    go_wp2_with fail
    go_quiet (fail)
    go_wp2_with fail
    go_ret
    exact ⟨rfl, _, World.drewN_drewN _ _ _⟩
  · have hlt1 : decide (j < (s.size : Int)) = false := decide_eq_false hlt
    rw [if_neg hlt]
    clear hlt
    go_enter Tryd.func24, Tryd.ntmps24
    go_wp2_with fail
    go_quiet (fail)
    go_wp2_with fail
    go_ret
    exact ⟨rfl, _, rfl⟩
abbrev sg (l : Array UInt8) : Value := .string ⟨l⟩
def signsV : Array Value := #[sg #[45, 62], sg #[61, 61], sg #[47, 61], sg #[61, 60], sg #[62, 61], sg #[61], sg #[60], sg #[62], sg #[43], sg #[45], sg #[42], sg #[47], sg #[33], sg #[40], sg #[41], sg #[123], sg #[125], sg #[91], sg #[93], sg #[44], sg #[59], sg #[46]]
theorem signs_any (w : World) :
    Calls Tryd.prog 33 #[] w fun e w' => e = .returned (.slice (some ⟨w.heap.size, 0, none⟩) 22 22) ∧ w' = w.alloc (.cells signsV 9) := by
  go_enter Tryd.func33, Tryd.ntmps33
  go_wp2_with fail
  go_ret
  exact ⟨rfl, rfl⟩
end Go.Proofs.YtejidddjkngoiaaDoor
