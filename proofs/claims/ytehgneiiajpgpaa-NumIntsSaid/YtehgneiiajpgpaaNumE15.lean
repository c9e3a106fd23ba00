/- NumInts answers true: its walks, one a path. The conditions of each stand in its statement. -/
import Derived.Test.YtehgneiiajpgpaaNumE0
namespace Go.Proofs.Ytehgneiiajpgpaa
open Go.RowKit Go.MapKept
set_option linter.unusedVariables false
set_option maxRecDepth 100000 in
set_option maxHeartbeats 4000000 in
theorem ints_o (q r m s p t : Int) (w : World) (HI : Hid (icall (-4611686018427387904) (okv (-4611686018427387904)))) (HJ : Hid (icall (-1) (okv (-1))))
    (HA : Hid (dcall 1 (-4611686018427387904) (-1) (err 12))) (HM : Hid (dcall 3 (-4611686018427387904) (-1) (err 12))) (HN : Hid (dcall 3 (-1) (-4611686018427387904) (err 12))) (HD : Hid (dcall 4 (-4611686018427387904) (-1) (err 12))) (HR : Hid (dcall 5 (-4611686018427387904) (-1) (okv 0))) :
    Calls Try.prog 3 #[.int .i64 (-4611686018427387904), .int .i64 (-1)] w fun e w' => e = .returned (.bool true) ∧ Below w.heap.size w w' := by
  have hcx := @run_store_cx Try.prog
  go_enter Try.func3, Try.ntmps3
  go_wp2_with fail
  refine (alive01 _).mono ?_
  rintro e w1 ⟨rfl, hb1⟩
  have z1 := hb1.size
  go_wp2_with fail
  refine (HI.out _).mono ?_
  rintro e w2 ⟨rfl, hb2⟩
  have z2 := hb2.size
  go_wp2_with fail
  refine (HJ.out _).mono ?_
  rintro e w3 ⟨rfl, hb3⟩
  have Bx3 := (Blk.new w2 31 (tcs 1 (-4611686018427387904))).call hb3
  have cx := Bx3.cell
  have fx := Bx3.frozen
  have lx3 := Bx3.lt
  have z3 := hb3.size
  go_wp2_with fail
  refine (HA.out _).mono ?_
  rintro e w4 ⟨rfl, hb4⟩
  have Bx4 := (Bx3.alloc _).call hb4
  have By4 := (Blk.new w3 31 (tcs 1 (-1))).call hb4
  clear cx fx
  have cx := Bx4.cell
  have fx := Bx4.frozen
  have lx4 := Bx4.lt
  have cy := By4.cell
  have fy := By4.frozen
  have ly4 := By4.lt
  have z4 := hb4.size
  go_wp2_with fail
  refine (HM.out _).mono ?_
  rintro e w5 ⟨rfl, hb5⟩
  have Bx5 := (Bx4.alloc _).call hb5
  have By5 := (By4.alloc _).call hb5
  have Bs5 := (Blk.new w4 31 (tcs 0 0)).call hb5
  clear cx fx cy fy
  have cx := Bx5.cell
  have fx := Bx5.frozen
  have lx5 := Bx5.lt
  have cy := By5.cell
  have fy := By5.frozen
  have ly5 := By5.lt
  have cs := Bs5.cell
  have fs := Bs5.frozen
  have ls5 := Bs5.lt
  have z5 := hb5.size
  go_wp2_with fail
  refine (HN.out _).mono ?_
  rintro e w6 ⟨rfl, hb6⟩
  have Bx6 := (Bx5.alloc _).call hb6
  have By6 := (By5.alloc _).call hb6
  have Bs6 := (Bs5.alloc _).call hb6
  have Bp6 := (Blk.new w5 31 (tcs 0 0)).call hb6
  clear cx fx cy fy cs fs
  have cx := Bx6.cell
  have fx := Bx6.frozen
  have lx6 := Bx6.lt
  have cy := By6.cell
  have fy := By6.frozen
  have ly6 := By6.lt
  have cs := Bs6.cell
  have fs := Bs6.frozen
  have ls6 := Bs6.lt
  have cp := Bp6.cell
  have fp := Bp6.frozen
  have lp6 := Bp6.lt
  have z6 := hb6.size
  go_wp2_with fail
  refine (HD.out _).mono ?_
  rintro e w7 ⟨rfl, hb7⟩
  have Bx7 := (Bx6.alloc _).call hb7
  have By7 := (By6.alloc _).call hb7
  have Bs7 := (Bs6.alloc _).call hb7
  have Bp7 := (Bp6.alloc _).call hb7
  have Bq7 := (Blk.new w6 31 (tcs 0 0)).call hb7
  clear cx fx cy fy cs fs cp fp
  have cx := Bx7.cell
  have fx := Bx7.frozen
  have lx7 := Bx7.lt
  have cy := By7.cell
  have fy := By7.frozen
  have ly7 := By7.lt
  have cs := Bs7.cell
  have fs := Bs7.frozen
  have ls7 := Bs7.lt
  have cp := Bp7.cell
  have fp := Bp7.frozen
  have lp7 := Bp7.lt
  have cq := Bq7.cell
  have fq := Bq7.frozen
  have lq7 := Bq7.lt
  have z7 := hb7.size
  go_wp2_with fail
  refine (HR.out _).mono ?_
  rintro e w8 ⟨rfl, hb8⟩
  have Bx8 := (Bx7.far9 (by have := lx7; have := lq7; first | omega | assumption)).call hb8
  have By8 := (By7.far9 (by have := ly7; have := lq7; first | omega | assumption)).call hb8
  have Bs8 := (Bs7.far9 (by have := ls7; have := lq7; first | omega | assumption)).call hb8
  have Bp8 := (Bp7.far9 (by have := lp7; have := lq7; first | omega | assumption)).call hb8
  have Bq8 := (Bq7.store9).call hb8
  clear cx fx cy fy cs fs cp fp cq fq
  have cx := Bx8.cell
  have fx := Bx8.frozen
  have lx8 := Bx8.lt
  have cy := By8.cell
  have fy := By8.frozen
  have ly8 := By8.lt
  have cs := Bs8.cell
  have fs := Bs8.frozen
  have ls8 := Bs8.lt
  have cp := Bp8.cell
  have fp := Bp8.frozen
  have lp8 := Bp8.lt
  have cq := Bq8.cell
  have fq := Bq8.frozen
  have lq8 := Bq8.lt
  have z8 := hb8.size
  go_wp2_with fail
  go_ret
  exact ⟨rfl, by (repeat (first | (with_reducible exact Below.refl _ _) | (with_reducible refine bl_alloc ?_ _) | (with_reducible refine bl_drewN ?_ _) | (with_reducible refine bl_drew ?_) | (with_reducible refine bl_set ?_ (by dsimp only; omega) _) | (with_reducible refine bl_call ?_ rfl (by assumption))))⟩
end Go.Proofs.Ytehgneiiajpgpaa
