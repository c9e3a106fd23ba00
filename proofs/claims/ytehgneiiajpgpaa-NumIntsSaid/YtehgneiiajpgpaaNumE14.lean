/- NumInts answers true: its walks, one a path. The conditions of each stand in its statement. -/
import Derived.Test.YtehgneiiajpgpaaNumE0
namespace Go.Proofs.Ytehgneiiajpgpaa
open Go.RowKit Go.MapKept
set_option linter.unusedVariables false
set_option maxRecDepth 100000 in
set_option maxHeartbeats 4000000 in
theorem ints_z (a b q r m s p t : Int) (w : World) (HI : Hid (icall a (okv a))) (HJ : Hid (icall b (okv b)))
    (HA : Hid (dcall 1 a b (okv s))) (HS : Hid (dcall 2 s b (okv a))) (HM : Hid (dcall 3 a b (okv m))) (HN : Hid (dcall 3 b a (okv m))) (HD : Hid (dcall 4 a b (err 11))) (HR : Hid (dcall 5 a b (err 11))) (h0 : (b == 0) = true) :
    Calls Try.prog 3 #[.int .i64 a, .int .i64 b] w fun e w' => e = .returned (.bool true) ∧ Below w.heap.size w w' := by
  have hcx := @run_store_cx Try.prog
  go_enter Try.func3, Try.ntmps3
  go_wp2_with fail
  refine (alive01 _).mono ?_
  rintro e w1 ⟨rfl, hb1⟩
  have z1 := hb1.size
  go_wp2_with fail
  refine (HI.out _).mono ?_
  rintro e w2 ⟨rfl, hb2⟩
  have z2 := hb2.size
  go_wp2_with fail
  refine (HJ.out _).mono ?_
  rintro e w3 ⟨rfl, hb3⟩
  have Bx3 := (Blk.new w2 31 (tcs 1 a)).call hb3
  have cx := Bx3.cell
  have fx := Bx3.frozen
  have lx3 := Bx3.lt
  have z3 := hb3.size
  go_wp2_with fail
  refine (HA.out _).mono ?_
  rintro e w4 ⟨rfl, hb4⟩
  have Bx4 := (Bx3.alloc _).call hb4
  have By4 := (Blk.new w3 31 (tcs 1 b)).call hb4
  clear cx fx
  have cx := Bx4.cell
  have fx := Bx4.frozen
  have lx4 := Bx4.lt
  have cy := By4.cell
  have fy := By4.frozen
  have ly4 := By4.lt
  have z4 := hb4.size
  go_wp2_with fail
  refine (HS.out _).mono ?_
  rintro e w5 ⟨rfl, hb5⟩
  have Bx5 := (Bx4.alloc _).call hb5
  have By5 := (By4.alloc _).call hb5
  have Bs5 := (Blk.new w4 31 (tcs 1 s)).call hb5
  clear cx fx cy fy
  have cx := Bx5.cell
  have fx := Bx5.frozen
  have lx5 := Bx5.lt
  have cy := By5.cell
  have fy := By5.frozen
  have ly5 := By5.lt
  have cs := Bs5.cell
  have fs := Bs5.frozen
  have ls5 := Bs5.lt
  have z5 := hb5.size
  go_wp2_with fail
  refine (HM.out _).mono ?_
  rintro e w6 ⟨rfl, hb6⟩
  have Bx6 := (Bx5.alloc _).call hb6
  have By6 := (By5.alloc _).call hb6
  have Bs6 := (Bs5.alloc _).call hb6
  have Bd6 := (Blk.new w5 31 (tcs 1 a)).call hb6
  clear cx fx cy fy cs fs
  have cx := Bx6.cell
  have fx := Bx6.frozen
  have lx6 := Bx6.lt
  have cy := By6.cell
  have fy := By6.frozen
  have ly6 := By6.lt
  have cs := Bs6.cell
  have fs := Bs6.frozen
  have ls6 := Bs6.lt
  have cd := Bd6.cell
  have fd := Bd6.frozen
  have ld6 := Bd6.lt
  have z6 := hb6.size
  go_wp2_with fail
  refine (HN.out _).mono ?_
  rintro e w7 ⟨rfl, hb7⟩
  have Bx7 := (Bx6.alloc _).call hb7
  have By7 := (By6.alloc _).call hb7
  have Bs7 := (Bs6.alloc _).call hb7
  have Bd7 := (Bd6.alloc _).call hb7
  have Bp7 := (Blk.new w6 31 (tcs 1 m)).call hb7
  clear cx fx cy fy cs fs cd fd
  have cx := Bx7.cell
  have fx := Bx7.frozen
  have lx7 := Bx7.lt
  have cy := By7.cell
  have fy := By7.frozen
  have ly7 := By7.lt
  have cs := Bs7.cell
  have fs := Bs7.frozen
  have ls7 := Bs7.lt
  have cd := Bd7.cell
  have fd := Bd7.frozen
  have ld7 := Bd7.lt
  have cp := Bp7.cell
  have fp := Bp7.frozen
  have lp7 := Bp7.lt
  have z7 := hb7.size
  go_wp2_with fail
  refine (HD.out _).mono ?_
  rintro e w8 ⟨rfl, hb8⟩
  have Bx8 := (Bx7.alloc _).call hb8
  have By8 := (By7.alloc _).call hb8
  have Bs8 := (Bs7.alloc _).call hb8
  have Bd8 := (Bd7.alloc _).call hb8
  have Bp8 := (Bp7.alloc _).call hb8
  have Bq8 := (Blk.new w7 31 (tcs 1 m)).call hb8
  clear cx fx cy fy cs fs cd fd cp fp
  have cx := Bx8.cell
  have fx := Bx8.frozen
  have lx8 := Bx8.lt
  have cy := By8.cell
  have fy := By8.frozen
  have ly8 := By8.lt
  have cs := Bs8.cell
  have fs := Bs8.frozen
  have ls8 := Bs8.lt
  have cd := Bd8.cell
  have fd := Bd8.frozen
  have ld8 := Bd8.lt
  have cp := Bp8.cell
  have fp := Bp8.frozen
  have lp8 := Bp8.lt
  have cq := Bq8.cell
  have fq := Bq8.frozen
  have lq8 := Bq8.lt
  have z8 := hb8.size
  go_wp2_with fail
  refine (HR.out _).mono ?_
  rintro e w9 ⟨rfl, hb9⟩
  have Bx9 := (Bx8.far9 (by have := lx8; have := lq8; first | omega | assumption)).call hb9
  have By9 := (By8.far9 (by have := ly8; have := lq8; first | omega | assumption)).call hb9
  have Bs9 := (Bs8.far9 (by have := ls8; have := lq8; first | omega | assumption)).call hb9
  have Bd9 := (Bd8.far9 (by have := ld8; have := lq8; first | omega | assumption)).call hb9
  have Bp9 := (Bp8.far9 (by have := lp8; have := lq8; first | omega | assumption)).call hb9
  have Bq9 := (Bq8.store9).call hb9
  clear cx fx cy fy cs fs cd fd cp fp cq fq
  have cx := Bx9.cell
  have fx := Bx9.frozen
  have lx9 := Bx9.lt
  have cy := By9.cell
  have fy := By9.frozen
  have ly9 := By9.lt
  have cs := Bs9.cell
  have fs := Bs9.frozen
  have ls9 := Bs9.lt
  have cd := Bd9.cell
  have fd := Bd9.frozen
  have ld9 := Bd9.lt
  have cp := Bp9.cell
  have fp := Bp9.frozen
  have lp9 := Bp9.lt
  have cq := Bq9.cell
  have fq := Bq9.frozen
  have lq9 := Bq9.lt
  have z9 := hb9.size
  go_wp2_with fail
  go_ret
  exact ⟨rfl, by (repeat (first | (with_reducible exact Below.refl _ _) | (with_reducible refine bl_alloc ?_ _) | (with_reducible refine bl_drewN ?_ _) | (with_reducible refine bl_drew ?_) | (with_reducible refine bl_set ?_ (by dsimp only; omega) _) | (with_reducible refine bl_call ?_ rfl (by assumption))))⟩
end Go.Proofs.Ytehgneiiajpgpaa
