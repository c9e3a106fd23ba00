/- NumInts answers true: its walks, one a path. The conditions of each stand in its statement. -/
import Derived.Test.YtehgneiiajpgpaaNumE0
namespace Go.Proofs.Ytehgneiiajpgpaa
open Go.RowKit Go.MapKept
set_option linter.unusedVariables false
set_option maxHeartbeats 1600000 in
theorem ints_no_ok (a b : Int) (w : World) (HI : Hid (icall a (err 12))) (HJ : Hid (icall b (okv b))) :
    Calls Try.prog 3 #[.int .i64 a, .int .i64 b] w fun e w' => e = .returned (.bool true) ∧ Below w.heap.size w w' := by
  have hcx := @run_store_cx Try.prog
  go_enter Try.func3, Try.ntmps3
  go_wp2_with fail
  refine (alive01 _).mono ?_
  rintro e w1 ⟨rfl, hb1⟩
  obtain ⟨hc1, hf1⟩ := bcell hb1
  have hz1 := hb1.size
  try simp at hz1
  try simp at hc1
  try simp at hf1
  go_wp2_with fail
  refine (HI.out _).mono ?_
  rintro e w2 ⟨rfl, hb2⟩
  obtain ⟨hc2, hf2⟩ := bcell hb2
  have hz2 := hb2.size
  try simp at hz2
  try simp at hc2
  try simp at hf2
  go_wp2_with fail
  refine (HJ.out _).mono ?_
  rintro e w3 ⟨rfl, hb3⟩
  obtain ⟨hc3, hf3⟩ := bcell hb3
  have hz3 := hb3.size
  try simp at hz3
  try simp at hc3
  try simp at hf3
  go_wp2_with fail
  go_ret
  exact ⟨rfl, by (repeat (first | (with_reducible exact Below.refl _ _) | (with_reducible refine bl_alloc ?_ _) | (with_reducible refine bl_drewN ?_ _) | (with_reducible refine bl_drew ?_) | (with_reducible refine bl_set ?_ (by dsimp only; omega) _) | (with_reducible refine bl_call ?_ rfl (by assumption))))⟩
set_option maxHeartbeats 1600000 in
theorem ints_no_no (a b : Int) (w : World) (HI : Hid (icall a (err 12))) (HJ : Hid (icall b (err 12))) :
    Calls Try.prog 3 #[.int .i64 a, .int .i64 b] w fun e w' => e = .returned (.bool true) ∧ Below w.heap.size w w' := by
  have hcx := @run_store_cx Try.prog
  go_enter Try.func3, Try.ntmps3
  go_wp2_with fail
  refine (alive01 _).mono ?_
  rintro e w1 ⟨rfl, hb1⟩
  obtain ⟨hc1, hf1⟩ := bcell hb1
  have hz1 := hb1.size
  try simp at hz1
  try simp at hc1
  try simp at hf1
  go_wp2_with fail
  refine (HI.out _).mono ?_
  rintro e w2 ⟨rfl, hb2⟩
  obtain ⟨hc2, hf2⟩ := bcell hb2
  have hz2 := hb2.size
  try simp at hz2
  try simp at hc2
  try simp at hf2
  go_wp2_with fail
  refine (HJ.out _).mono ?_
  rintro e w3 ⟨rfl, hb3⟩
  obtain ⟨hc3, hf3⟩ := bcell hb3
  have hz3 := hb3.size
  try simp at hz3
  try simp at hc3
  try simp at hf3
  go_wp2_with fail
  go_ret
  exact ⟨rfl, by (repeat (first | (with_reducible exact Below.refl _ _) | (with_reducible refine bl_alloc ?_ _) | (with_reducible refine bl_drewN ?_ _) | (with_reducible refine bl_drew ?_) | (with_reducible refine bl_set ?_ (by dsimp only; omega) _) | (with_reducible refine bl_call ?_ rfl (by assumption))))⟩
set_option maxHeartbeats 1600000 in
theorem ints_ok_no (a b : Int) (w : World) (HI : Hid (icall a (okv a))) (HJ : Hid (icall b (err 12))) :
    Calls Try.prog 3 #[.int .i64 a, .int .i64 b] w fun e w' => e = .returned (.bool true) ∧ Below w.heap.size w w' := by
  have hcx := @run_store_cx Try.prog
  go_enter Try.func3, Try.ntmps3
  go_wp2_with fail
  refine (alive01 _).mono ?_
  rintro e w1 ⟨rfl, hb1⟩
  obtain ⟨hc1, hf1⟩ := bcell hb1
  have hz1 := hb1.size
  try simp at hz1
  try simp at hc1
  try simp at hf1
  go_wp2_with fail
  refine (HI.out _).mono ?_
  rintro e w2 ⟨rfl, hb2⟩
  obtain ⟨hc2, hf2⟩ := bcell hb2
  have hz2 := hb2.size
  try simp at hz2
  try simp at hc2
  try simp at hf2
  go_wp2_with fail
  refine (HJ.out _).mono ?_
  rintro e w3 ⟨rfl, hb3⟩
  obtain ⟨hc3, hf3⟩ := bcell hb3
  have hz3 := hb3.size
  try simp at hz3
  try simp at hc3
  try simp at hf3
  go_wp2_with fail
  go_ret
  exact ⟨rfl, by (repeat (first | (with_reducible exact Below.refl _ _) | (with_reducible refine bl_alloc ?_ _) | (with_reducible refine bl_drewN ?_ _) | (with_reducible refine bl_drew ?_) | (with_reducible refine bl_set ?_ (by dsimp only; omega) _) | (with_reducible refine bl_call ?_ rfl (by assumption))))⟩
end Go.Proofs.Ytehgneiiajpgpaa
