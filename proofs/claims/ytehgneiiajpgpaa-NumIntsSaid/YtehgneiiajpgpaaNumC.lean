/- num.table, parts, Cx at the chapter's examples. -/
import Derived.Test.YtehgneiiajpgpaaNumA
import Derived.Test.YtehgneiiajpgpaaMp
namespace Go.Proofs.Ytehgneiiajpgpaa
open Go.RowKit Go.MapKept
set_option linter.unusedVariables false
def tabE (n : Int) (f : Nat) (b : Nat) : MapEntry := { key := .int .i64 n, val := .func (.func f) #[] #[], born := b }
def tabEs : Array MapEntry := #[tabE 1 47 0, tabE 2 48 1, tabE 3 49 2, tabE 4 50 3]
theorem mul00 (w : World) : (binOp .mul 67 (.float .f64 0) (.float .f64 0)).run Try.prog w = .ok (.float .f64 0) w := by kernel_rfl
theorem mul11 (w : World) : (binOp .mul 67 (.float .f64 4607182418800017408) (.float .f64 4607182418800017408)).run Try.prog w = .ok (.float .f64 4607182418800017408) w := by kernel_rfl
theorem sub01 (w : World) : (binOp .sub 67 (.float .f64 0) (.float .f64 4607182418800017408)).run Try.prog w = .ok (.float .f64 13830554455654793216) w := by kernel_rfl
theorem mul01 (w : World) : (binOp .mul 67 (.float .f64 0) (.float .f64 4607182418800017408)).run Try.prog w = .ok (.float .f64 0) w := by kernel_rfl
theorem mul10 (w : World) : (binOp .mul 67 (.float .f64 4607182418800017408) (.float .f64 0)).run Try.prog w = .ok (.float .f64 0) w := by kernel_rfl
theorem add00 (w : World) : (binOp .add 67 (.float .f64 0) (.float .f64 0)).run Try.prog w = .ok (.float .f64 0) w := by kernel_rfl
theorem submm (w : World) : (binOp .sub 67 (.float .f64 13830554455654793216) (.float .f64 13830554455654793216)).run Try.prog w = .ok (.float .f64 0) w := by kernel_rfl
theorem eqlm0 (w : World) : (binOp .eql 67 (.float .f64 13830554455654793216) (.float .f64 0)).run Try.prog w = .ok (.bool false) w := by kernel_rfl
theorem ordm0 : FloatKind.f64.format.order 13830554455654793216 0 = some .lt := by kernel_rfl
theorem foi1 : floatOfInt FloatKind.f64 1 = 4607182418800017408 := by kernel_rfl
set_option maxHeartbeats 400000 in
theorem table_any (w : World) :
    Calls Try.prog 32 #[] w fun e w' => e = .returned (.map (some w.heap.size)) ∧ w.alloc (.map tabEs 4) = w' := by
  have hmm := @run_makeMap Try.prog
  have hT : Try.prog.underlying 74 = some (.map 3 73) := by kernel_rfl
  have hI : Try.prog.underlying 3 = some (.int .i64) := by kernel_rfl
  have u1 := run_mapUpdate_made (es := #[]) (clock := 0) (w := w) (key := .int .i64 1) (val := .func (.func 47) #[] #[]) hT hI rfl rfl
  have u2 := run_mapUpdate_made (es := #[tabE 1 47 0]) (clock := 1) (w := w) (key := .int .i64 2) (val := .func (.func 48) #[] #[]) hT hI rfl rfl
  have u3 := run_mapUpdate_made (es := #[tabE 1 47 0, tabE 2 48 1]) (clock := 2) (w := w) (key := .int .i64 3) (val := .func (.func 49) #[] #[]) hT hI rfl rfl
  have u4 := run_mapUpdate_made (es := #[tabE 1 47 0, tabE 2 48 1, tabE 3 49 2]) (clock := 3) (w := w) (key := .int .i64 4) (val := .func (.func 50) #[] #[]) hT hI rfl rfl
  simp only [tabE, List.push_toArray, List.nil_append, List.cons_append, Nat.zero_add, Nat.reduceAdd] at u1 u2 u3 u4
  clear hT hI
  go_enter Try.func32, Try.ntmps32
  go_wp2
  go_ret
  exact ⟨rfl, rfl⟩

theorem parts_cx (re im : Nat) (w : World) :
    Calls Try.prog 30 #[tm 2 0 re im] w fun e w' => e = .returned (.tuple #[.float .f64 re, .float .f64 im]) ∧ Below w.heap.size w w' := by
  have hcx := @run_store_cx Try.prog
  go_enter Try.func30, Try.ntmps30
  go_wp2
  go_region
  all_goals go_wp2
  all_goals go_ret2
  all_goals exact ⟨rfl, by (repeat (first | (with_reducible exact Below.refl _ _) | (with_reducible refine bl_alloc ?_ _) | (with_reducible refine bl_drewN ?_ _) | (with_reducible refine bl_drew ?_) | (with_reducible refine bl_set ?_ (by dsimp only; omega) _) | (with_reducible refine bl_call ?_ rfl True)))⟩

theorem parts_int1 (w : World) :
    Calls Try.prog 30 #[tm 1 1 0 0] w fun e w' => e = .returned (.tuple #[.float .f64 4607182418800017408, .float .f64 0]) ∧ Below w.heap.size w w' := by
  have hcx := @run_store_cx Try.prog
  have e1 := foi1
  go_enter Try.func30, Try.ntmps30
  go_wp2
  go_ret2
  exact ⟨rfl, by (repeat (first | (with_reducible exact Below.refl _ _) | (with_reducible refine bl_alloc ?_ _) | (with_reducible refine bl_drewN ?_ _) | (with_reducible refine bl_drew ?_) | (with_reducible refine bl_set ?_ (by dsimp only; omega) _) | (with_reducible refine bl_call ?_ rfl True)))⟩

theorem mul_cx (w : World) :
    Calls Try.prog 49 #[.float .f64 0, .float .f64 4607182418800017408, .float .f64 0, .float .f64 4607182418800017408] w fun e w' => e = .returned (.complex .f64 13830554455654793216 0) ∧ Below w.heap.size w w' := by
  have e1 := mul00; have e2 := mul11; have e3 := sub01; have e4 := mul01; have e5 := mul10; have e6 := add00
  go_enter Try.func49, Try.ntmps49
  go_wp2
  go_ret
  exact ⟨rfl, by (repeat (first | (with_reducible exact Below.refl _ _) | (with_reducible refine bl_alloc ?_ _) | (with_reducible refine bl_drewN ?_ _) | (with_reducible refine bl_drew ?_) | (with_reducible refine bl_set ?_ (by dsimp only; omega) _) | (with_reducible refine bl_call ?_ rfl True)))⟩

theorem cx_m1 (w : World) :
    Calls Try.prog 31 #[.complex .f64 13830554455654793216 0] w fun e w' => e = .returned (.tuple #[tm 2 0 13830554455654793216 0, .int .i64 0]) ∧ Below w.heap.size w w' := by
  have hcx := @run_store_cx Try.prog
  have e1 := submm; have e2 := sub00; have e3 := ord00; have e4 := ordm0
  go_enter Try.func31, Try.ntmps31
  go_wp2
  exact bodyPost_ret (v := .tuple #[tm 2 0 13830554455654793216 0, .int .i64 0]) (by simp [results, Try.results31, go_sem]) rfl ⟨rfl, by (repeat (first | (with_reducible exact Below.refl _ _) | (with_reducible refine bl_alloc ?_ _) | (with_reducible refine bl_drewN ?_ _) | (with_reducible refine bl_drew ?_) | (with_reducible refine bl_set ?_ (by dsimp only; omega) _) | (with_reducible refine bl_call ?_ rfl True)))⟩

set_option maxHeartbeats 400000 in
theorem right_cx0 (w : World) :
    Calls Try.prog 28 #[tm 2 0 0 0] w fun e w' => e = .returned (.bool true) ∧ Below w.heap.size w w' := by
  have hcx := @run_store_cx Try.prog
  have e1 := sub00; have e2 := quo10; have e3 := lssi0; have e4 := eql00
  have o1 := ordi0; have o3 := ord00
  go_enter Try.func28, Try.ntmps28
  go_wp2
  go_region
  all_goals go_wp2
  go_ret
  exact ⟨rfl, by (repeat (first | (with_reducible exact Below.refl _ _) | (with_reducible refine bl_alloc ?_ _) | (with_reducible refine bl_drewN ?_ _) | (with_reducible refine bl_drew ?_) | (with_reducible refine bl_set ?_ (by dsimp only; omega) _) | (with_reducible refine bl_call ?_ rfl True)))⟩

end Go.Proofs.Ytehgneiiajpgpaa
