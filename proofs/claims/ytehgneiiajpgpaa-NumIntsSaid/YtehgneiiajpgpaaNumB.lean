/- num.Do of two ints, and of the complex numbers of the chapter's examples. -/
import Derived.Test.YtehgneiiajpgpaaNumC
namespace Go.Proofs.Ytehgneiiajpgpaa
open Go.RowKit Go.MapKept
set_option linter.unusedVariables false
set_option maxHeartbeats 800000 in
theorem do_int (op a b k n er : Int) (w : World) (o1 : 1 ≤ op) (o2 : op ≤ 5) (a1 : -4611686018427387904 ≤ a) (a2 : a ≤ 4611686018427387903) (b1 : -4611686018427387904 ≤ b) (b2 : b ≤ 4611686018427387903)
    (hw : ∀ w, Calls Try.prog 29 #[.int .i64 op, .int .i64 a, .int .i64 b] w fun e w' => e = .returned (.tuple #[tm k n 0 0, .int .i64 er]) ∧ Below w.heap.size w w') :
    Calls Try.prog 11 #[.int .i64 op, tm 1 a 0 0, tm 1 b 0 0] w fun e w' => e = .returned (.tuple #[tm k n 0 0, .int .i64 er]) ∧ Below w.heap.size w w' := by
  have hcx := @run_store_cx Try.prog
  have HW := Lib.hid hw
  clear hw
  go_enter Try.func11, Try.ntmps11
  go_wp2_with fail
  refine (right_int a _ a1 a2).mono ?_
  rintro e w1 ⟨rfl, hb1⟩
  obtain ⟨hc1, hf1⟩ := bcell hb1
  have hz1 := hb1.size
  try simp at hz1
  try simp at hc1
  try simp at hf1
  go_wp2_with fail
  refine (right_int b _ b1 b2).mono ?_
  rintro e w2 ⟨rfl, hb2⟩
  replace hb2 := (hb1).trans ((hb2).mono (hb1).size)
  obtain ⟨hc2, hf2⟩ := bcell hb2
  have hz2 := hb2.size
  try simp at hz2
  try simp at hc2
  try simp at hf2
  go_wp2_with fail
  refine (HW.out _).mono ?_
  rintro e w3 ⟨rfl, hb3⟩
  replace hb3 := (hb2).trans ((hb3).mono (hb2).size)
  obtain ⟨hc3, hf3⟩ := bcell hb3
  have hz3 := hb3.size
  try simp at hz3
  try simp at hc3
  try simp at hf3
  go_wp2_with fail
  exact bodyPost_ret (v := .tuple #[tm k n 0 0, .int .i64 er]) (by simp [results, Try.results11, go_sem, hc3]) rfl ⟨rfl, by (repeat (first | (with_reducible exact Below.refl _ _) | (with_reducible refine bl_alloc ?_ _) | (with_reducible refine bl_drewN ?_ _) | (with_reducible refine bl_drew ?_) | (with_reducible refine bl_set ?_ (by dsimp only; omega) _) | (with_reducible refine bl_call ?_ rfl hb3)))⟩

theorem tab_look (w : World) : (Instr.lookup 74 (.map (some w.heap.size)) (.int .i64 3) false).run Try.prog (w.alloc (.map tabEs 4)) = .ok (.func (.func 49) #[] #[]) (w.alloc (.map tabEs 4)) :=
  run_lookup_in (j := 2) (d := .int .i64) (kt := 3) (et := 73) (by kernel_rfl) (by kernel_rfl) rfl (heap_alloc_new' w _) rfl
set_option maxHeartbeats 800000 in
theorem do_mul_cx (w : World) :
    Calls Try.prog 11 #[.int .i64 3, tm 2 0 0 4607182418800017408, tm 2 0 0 4607182418800017408] w fun e w' => e = .returned (.tuple #[tm 2 0 13830554455654793216 0, .int .i64 0]) ∧ Below w.heap.size w w' := by
  have hcx := @run_store_cx Try.prog
  go_enter Try.func11, Try.ntmps11
  go_wp2_with fail
  refine (right_cx _).mono ?_
  rintro e w1 ⟨rfl, hb1⟩
  obtain ⟨hc1, hf1⟩ := bcell hb1
  have hz1 := hb1.size
  try simp at hz1
  try simp at hc1
  try simp at hf1
  go_wp2_with fail
  refine (right_cx _).mono ?_
  rintro e w2 ⟨rfl, hb2⟩
  replace hb2 := (hb1).trans ((hb2).mono (hb1).size)
  obtain ⟨hc2, hf2⟩ := bcell hb2
  have hz2 := hb2.size
  try simp at hz2
  try simp at hc2
  try simp at hf2
  go_wp2_with fail
  refine (parts_cx _ _ _).mono ?_
  rintro e w3 ⟨rfl, hb3⟩
  replace hb3 := (hb2).trans ((hb3).mono (hb2).size)
  obtain ⟨hc3, hf3⟩ := bcell hb3
  have hz3 := hb3.size
  try simp at hz3
  try simp at hc3
  try simp at hf3
  go_wp2_with fail
  refine (parts_cx _ _ _).mono ?_
  rintro e w4 ⟨rfl, hb4⟩
  replace hb4 := (hb3).trans ((hb4).mono (hb3).size)
  obtain ⟨hc4, hf4⟩ := bcell hb4
  have hz4 := hb4.size
  try simp at hz4
  try simp at hc4
  try simp at hf4
  go_wp2_with fail
  refine (table_any _).mono ?_
  rintro e w5 ⟨rfl, rfl⟩
  have hlk := tab_look w4
  go_wp2_with fail
  refine (mul_cx _).mono ?_
  rintro e w6 ⟨rfl, hb6⟩
  replace hb6 := bl_call2 hb4 (bl_call2 (bl_alloc (Below.refl _ _) _) (Below.mono hb6 (by simp)))
  go_wp2_with fail
  refine (cx_m1 _).mono ?_
  rintro e w7 ⟨rfl, hb7⟩
  replace hb7 := (hb6).trans ((hb7).mono (hb6).size)
  obtain ⟨hc7, hf7⟩ := bcell hb7
  have hz7 := hb7.size
  try simp at hz7
  try simp at hc7
  try simp at hf7
  go_wp2_with fail
  exact bodyPost_ret (v := .tuple #[tm 2 0 13830554455654793216 0, .int .i64 0]) (by simp [results, Try.results11, go_sem, hc7]) rfl ⟨rfl, by (repeat (first | (with_reducible exact Below.refl _ _) | (with_reducible refine bl_alloc ?_ _) | (with_reducible refine bl_drewN ?_ _) | (with_reducible refine bl_drew ?_) | (with_reducible refine bl_set ?_ (by dsimp only; omega) _) | (with_reducible refine bl_call ?_ rfl hb7)))⟩

set_option maxHeartbeats 800000 in
theorem do_div0 (w : World) :
    Calls Try.prog 11 #[.int .i64 4, tm 1 1 0 0, tm 2 0 0 0] w fun e w' => e = .returned (.tuple #[tm 0 0 0 0, .int .i64 11]) ∧ Below w.heap.size w w' := by
  have hcx := @run_store_cx Try.prog
  have q1 := eql00
  have q2 := ord00
  go_enter Try.func11, Try.ntmps11
  go_wp2_with fail
  refine (right_int 1 _ (by omega) (by omega)).mono ?_
  rintro e w1 ⟨rfl, hb1⟩
  obtain ⟨hc1, hf1⟩ := bcell hb1
  have hz1 := hb1.size
  try simp at hz1
  try simp at hc1
  try simp at hf1
  go_wp2_with fail
  refine (right_cx0 _).mono ?_
  rintro e w2 ⟨rfl, hb2⟩
  replace hb2 := (hb1).trans ((hb2).mono (hb1).size)
  obtain ⟨hc2, hf2⟩ := bcell hb2
  have hz2 := hb2.size
  try simp at hz2
  try simp at hc2
  try simp at hf2
  go_wp2_with fail
  refine (parts_int1 _).mono ?_
  rintro e w3 ⟨rfl, hb3⟩
  replace hb3 := (hb2).trans ((hb3).mono (hb2).size)
  obtain ⟨hc3, hf3⟩ := bcell hb3
  have hz3 := hb3.size
  try simp at hz3
  try simp at hc3
  try simp at hf3
  go_wp2_with fail
  refine (parts_cx _ _ _).mono ?_
  rintro e w4 ⟨rfl, hb4⟩
  replace hb4 := (hb3).trans ((hb4).mono (hb3).size)
  obtain ⟨hc4, hf4⟩ := bcell hb4
  have hz4 := hb4.size
  try simp at hz4
  try simp at hc4
  try simp at hf4
  go_wp2_with fail
  exact bodyPost_ret (v := .tuple #[tm 0 0 0 0, .int .i64 11]) (by simp [results, Try.results11, go_sem, hc4]) rfl ⟨rfl, by (repeat (first | (with_reducible exact Below.refl _ _) | (with_reducible refine bl_alloc ?_ _) | (with_reducible refine bl_drewN ?_ _) | (with_reducible refine bl_drew ?_) | (with_reducible refine bl_set ?_ (by dsimp only; omega) _) | (with_reducible refine bl_call ?_ rfl hb4)))⟩

theorem do_add (a b : Int) (w : World) (a1 : -4611686018427387904 ≤ a) (a2 : a ≤ 4611686018427387903) (b1 : -4611686018427387904 ≤ b) (b2 : b ≤ 4611686018427387903) : Calls Try.prog 11 #[.int .i64 1, tm 1 a 0 0, tm 1 b 0 0] w fun e w' => e = .returned (mkInt (a + b)) ∧ Below w.heap.size w w' := by
  have H := fun w => whole_add a b w a1 a2 b1 b2
  unfold mkInt at H ⊢
  split at H <;> rename_i h
  · rw [if_pos h]; exact do_int 1 a b _ _ _ w (by omega) (by omega) a1 a2 b1 b2 H
  · rw [if_neg h]; exact do_int 1 a b _ _ _ w (by omega) (by omega) a1 a2 b1 b2 H
theorem do_sub (a b : Int) (w : World) (a1 : -4611686018427387904 ≤ a) (a2 : a ≤ 4611686018427387903) (b1 : -4611686018427387904 ≤ b) (b2 : b ≤ 4611686018427387903) : Calls Try.prog 11 #[.int .i64 2, tm 1 a 0 0, tm 1 b 0 0] w fun e w' => e = .returned (mkInt (a - b)) ∧ Below w.heap.size w w' := by
  have H := fun w => whole_sub a b w a1 a2 b1 b2
  unfold mkInt at H ⊢
  split at H <;> rename_i h
  · rw [if_pos h]; exact do_int 2 a b _ _ _ w (by omega) (by omega) a1 a2 b1 b2 H
  · rw [if_neg h]; exact do_int 2 a b _ _ _ w (by omega) (by omega) a1 a2 b1 b2 H
theorem do_mul (a b : Int) (w : World) (a1 : -4611686018427387904 ≤ a) (a2 : a ≤ 4611686018427387903) (b1 : -4611686018427387904 ≤ b) (b2 : b ≤ 4611686018427387903) : Calls Try.prog 11 #[.int .i64 3, tm 1 a 0 0, tm 1 b 0 0] w fun e w' => e = .returned (mkInt (a * b)) ∧ Below w.heap.size w w' := by
  have H := fun w => whole_mul a b w a1 a2 b1 b2
  unfold mkInt at H ⊢
  split at H <;> rename_i h
  · rw [if_pos h]; exact do_int 3 a b _ _ _ w (by omega) (by omega) a1 a2 b1 b2 H
  · rw [if_neg h]; exact do_int 3 a b _ _ _ w (by omega) (by omega) a1 a2 b1 b2 H
theorem do_div (a b : Int) (w : World) (a1 : -4611686018427387904 ≤ a) (a2 : a ≤ 4611686018427387903) (b1 : -4611686018427387904 ≤ b) (b2 : b ≤ 4611686018427387903) (h0 : ¬ b = 0) : Calls Try.prog 11 #[.int .i64 4, tm 1 a 0 0, tm 1 b 0 0] w fun e w' => e = .returned (mkInt (a.tdiv b)) ∧ Below w.heap.size w w' := by
  have H := fun w => whole_div a b w a1 a2 b1 b2 h0
  unfold mkInt at H ⊢
  split at H <;> rename_i h
  · rw [if_pos h]; exact do_int 4 a b _ _ _ w (by omega) (by omega) a1 a2 b1 b2 H
  · rw [if_neg h]; exact do_int 4 a b _ _ _ w (by omega) (by omega) a1 a2 b1 b2 H
theorem do_rem (a b : Int) (w : World) (a1 : -4611686018427387904 ≤ a) (a2 : a ≤ 4611686018427387903) (b1 : -4611686018427387904 ≤ b) (b2 : b ≤ 4611686018427387903) (h0 : ¬ b = 0) : Calls Try.prog 11 #[.int .i64 5, tm 1 a 0 0, tm 1 b 0 0] w fun e w' => e = .returned (mkInt (a.tmod b)) ∧ Below w.heap.size w w' := by
  have H := fun w => whole_rem a b w a1 a2 b1 b2 h0
  unfold mkInt at H ⊢
  split at H <;> rename_i h
  · rw [if_pos h]; exact do_int 5 a b _ _ _ w (by omega) (by omega) a1 a2 b1 b2 H
  · rw [if_neg h]; exact do_int 5 a b _ _ _ w (by omega) (by omega) a1 a2 b1 b2 H
theorem do_div_z (a : Int) (w : World) (a1 : -4611686018427387904 ≤ a) (a2 : a ≤ 4611686018427387903) : Calls Try.prog 11 #[.int .i64 4, tm 1 a 0 0, tm 1 0 0 0] w fun e w' => e = .returned (err 11) ∧ Below w.heap.size w w' :=
  do_int 4 a 0 _ _ _ w (by omega) (by omega) a1 a2 (by omega) (by omega) fun w => whole_zero4 a w
theorem do_rem_z (a : Int) (w : World) (a1 : -4611686018427387904 ≤ a) (a2 : a ≤ 4611686018427387903) : Calls Try.prog 11 #[.int .i64 5, tm 1 a 0 0, tm 1 0 0 0] w fun e w' => e = .returned (err 11) ∧ Below w.heap.size w w' :=
  do_int 5 a 0 _ _ _ w (by omega) (by omega) a1 a2 (by omega) (by omega) fun w => whole_zero5 a w
end Go.Proofs.Ytehgneiiajpgpaa
