/- rookerylaw01.alive answers true. -/
import Derived.Test.YtehgneiiajpgpaaNumB
namespace Go.Proofs.Ytehgneiiajpgpaa
open Go.RowKit Go.MapKept
set_option linter.unusedVariables false
theorem ordm1m1 : FloatKind.f64.format.order 13830554455654793216 13830554455654793216 = some .eq := by kernel_rfl
set_option maxHeartbeats 800000 in
theorem alive01 (w : World) :
    Calls Try.prog 9 #[] w fun e w' => e = .returned (.bool true) ∧ Below w.heap.size w w' := by
  have hcx := @run_store_cx Try.prog
  have H3 : mkInt ((7 : Int).tdiv (-2)) = .tuple #[tm 1 (-3) 0 0, .int .i64 0] := mkInt_ok (by decide)
  have d1 := fun w => do_div 7 (-2) w (by omega) (by omega) (by omega) (by omega) (by omega)
  rw [H3] at d1
  have D1 := Lib.hid d1
  clear d1 H3
  go_enter Try.func9, Try.ntmps9
  go_wp2_with fail
  refine (D1.out _).mono ?_
  rintro e w1 ⟨rfl, hb1⟩
  obtain ⟨hc1, hf1⟩ := bcell hb1
  have hz1 := hb1.size
  try simp at hz1
  try simp at hc1
  try simp at hf1
  go_wp2_with fail
  refine (do_mul_cx _).mono ?_
  rintro e w2 ⟨rfl, hb2⟩
  obtain ⟨hc2, hf2⟩ := bcell hb2
  have hz2 := hb2.size
  try simp at hz2
  try simp at hc2
  try simp at hf2
  go_wp2_with fail
  refine (do_div0 _).mono ?_
  rintro e w3 ⟨rfl, hb3⟩
  obtain ⟨hc3, hf3⟩ := bcell hb3
  have hz3 := hb3.size
  try simp at hz3
  try simp at hc3
  try simp at hf3
  have q1 : w1.heap.size < w2.heap.size := by omega
  have q2 : w1.heap.size < w2.heap.size + 1 := by omega
  have q3 : w1.heap.size < w3.heap.size := by omega
  have q4 : w2.heap.size < w3.heap.size := by omega
  have o1 := ordm1m1
  go_wp2_with fail
  go_ret
  exact ⟨rfl, by (repeat (first | (with_reducible exact Below.refl _ _) | (with_reducible refine bl_alloc ?_ _) | (with_reducible refine bl_drewN ?_ _) | (with_reducible refine bl_drew ?_) | (with_reducible refine bl_set ?_ (by dsimp only; omega) _) | (with_reducible refine bl_call ?_ rfl (by assumption))))⟩
end Go.Proofs.Ytehgneiiajpgpaa
