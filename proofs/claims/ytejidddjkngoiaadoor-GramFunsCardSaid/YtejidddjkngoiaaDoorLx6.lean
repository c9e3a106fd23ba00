/- lex: the token that is a name: a variable, an atom, a word; or it is too long. -/
import Derived.Test.YtejidddjkngoiaaDoorLx3
namespace Go.Proofs.YtejidddjkngoiaaDoor
open Go.RowKit Go.Proofs.YtejidddjkngoiaaDoorW.PrintWords
set_option linter.all false
set_option maxHeartbeats 2000000 in
set_option maxRecDepth 100000 in
theorem token_var_long (g : Nat) (s : ByteArray) (i : Nat) (w : World) (hI : ScAt w g s (i : Int)) (hlt : i < s.size) (hs : s.size ≤ 16384)
    (hd : digB (bt s (i : Int)) = false) (hq : (bt s (i : Int) == 34) = false) (hgr : greB (bt s (i : Int)) = true) (hl : 32 < runLen namB s i) :
    Calls Tryd.prog 20 #[.pointer (some ⟨g, 0, none⟩)] w fun e w' =>
      e = .returned (.tuple #[tokA 3 (s.extract i (i + runLen namB s i)) 0 (.slice none 0 0) i, .int .i64 153]) ∧ ScAt w' g s ((i + runLen namB s i : Nat) : Int) ∧ KeepBut w w' g none ∧ Below g w w' := by
  have c0 : w.cell? ⟨g, 0, none⟩ = some (.string s) := blk_cell hI 0
  have c1 : w.cell? ⟨g, 1, none⟩ = some (.int .i64 i) := blk_cell hI 1
  have hg := blk_lt hI
  have b1 := bt_range s (i : Int)
  have HH := fun w hI => here_any g s (i : Int) w hI (by omega)
  rw [hereB_lt hlt] at HH
  have HH' := Lib.hid HH
  have S0 := St.start w hI #[.int .i64 0, .string ⟨#[]⟩, .int .i64 0, .slice none 0 0, .int .i64 0] #[.int .i64 0, .string ⟨#[]⟩, .int .i64 0, .slice none 0 0, .int .i64 i]
  have HS0 := Lib.hid S0
  clear HH S0 hI
  have D := fun w => digit_any (bt s (i : Int)) w
  rw [hd] at D
  have HD := Lib.hid D
  have GR := fun w => great_any (bt s (i : Int)) w
  rw [hgr] at GR
  have HGR := Lib.hid GR
  have WH := fun w hI => while_named g s i w hI (by omega) hs
  have hle := run_le namB s i (by omega)
  obtain ⟨T, hT⟩ : ∃ T, T = s.extract i (i + runLen namB s i) := ⟨_, rfl⟩
  have hTs : T.size = runLen namB s i := by rw [hT, ByteArray.size_extract]; omega
  obtain ⟨j, hj⟩ : ∃ j : Nat, j = i + runLen namB s i := ⟨_, rfl⟩
  rw [← hT, ← hj] at WH
  rw [← hT, ← hj]
  have hw2 : decide (32 < (T.size : Int)) = true := decide_eq_true (by omega)
  have HWH := Lib.hid WH
  clear D hd GR hgr WH hj hT hTs 
  go_enter Tryd.func20, Tryd.ntmps20
  go_wp2_with fail
  go_step3
  go_wp2_with fail
  refine (HH'.out _ HS0.out.sc).mono ?_
  rintro e w1 ⟨rfl, n1, rfl⟩
  go_wp2_with fail
  refine (HD.out _).mono ?_
  rintro e w1 ⟨rfl, rfl⟩
  go_wp2_with fail
  refine (HGR.out _).mono ?_
  rintro e w1 ⟨rfl, rfl⟩
  go_wp2_with fail
  have S1 := (HS0.out.drewN n1).setT 0 (.int .i64 3)
  refine (HWH.out _ S1.sc).mono ?_
  rintro e w2 ⟨rfl, I2, K2, L2⟩
  have S2 := S1.scan I2 K2 L2
  have HS3 := Lib.hid S2
  clear S1 I2 K2 S2 L2 c0 c1
  have c0 := HS3.out.sc.cell0
  have c1 := HS3.out.sc.cell1
  have f1 := HS3.out.sc.froz
  have ct := HS3.out.t.cell
  have ft := HS3.out.t.frozen
  have cr := HS3.out.r.cell
  have fr := HS3.out.r.frozen
  go_wp2_with fail
  rw [Exit.noGoto_ret]
  exact bodyPost_ret (v := .tuple #[tokA 3 T 0 (.slice none 0 0) i, .int .i64 153]) (by simp [results, Tryd.results20, go_sem, cr]) rfl ⟨rfl, (HS3.out.setT 1 (.string T)).setR5 _ _ _ _ _⟩
set_option maxHeartbeats 2000000 in
set_option maxRecDepth 100000 in
theorem token_var (g : Nat) (s : ByteArray) (i : Nat) (w : World) (hI : ScAt w g s (i : Int)) (hlt : i < s.size) (hs : s.size ≤ 16384)
    (hd : digB (bt s (i : Int)) = false) (hq : (bt s (i : Int) == 34) = false) (hgr : greB (bt s (i : Int)) = true) (hl : runLen namB s i ≤ 32) :
    Calls Tryd.prog 20 #[.pointer (some ⟨g, 0, none⟩)] w fun e w' =>
      e = .returned (.tuple #[tokA 3 (s.extract i (i + runLen namB s i)) 0 (.slice none 0 0) i, .int .i64 0]) ∧ ScAt w' g s ((i + runLen namB s i : Nat) : Int) ∧ KeepBut w w' g none ∧ Below g w w' := by
  have c0 : w.cell? ⟨g, 0, none⟩ = some (.string s) := blk_cell hI 0
  have c1 : w.cell? ⟨g, 1, none⟩ = some (.int .i64 i) := blk_cell hI 1
  have hg := blk_lt hI
  have b1 := bt_range s (i : Int)
  have HH := fun w hI => here_any g s (i : Int) w hI (by omega)
  rw [hereB_lt hlt] at HH
  have HH' := Lib.hid HH
  have S0 := St.start w hI #[.int .i64 0, .string ⟨#[]⟩, .int .i64 0, .slice none 0 0, .int .i64 0] #[.int .i64 0, .string ⟨#[]⟩, .int .i64 0, .slice none 0 0, .int .i64 i]
  have HS0 := Lib.hid S0
  clear HH S0 hI
  have D := fun w => digit_any (bt s (i : Int)) w
  rw [hd] at D
  have HD := Lib.hid D
  have GR := fun w => great_any (bt s (i : Int)) w
  rw [hgr] at GR
  have HGR := Lib.hid GR
  have WH := fun w hI => while_named g s i w hI (by omega) hs
  have hle := run_le namB s i (by omega)
  obtain ⟨T, hT⟩ : ∃ T, T = s.extract i (i + runLen namB s i) := ⟨_, rfl⟩
  have hTs : T.size = runLen namB s i := by rw [hT, ByteArray.size_extract]; omega
  obtain ⟨j, hj⟩ : ∃ j : Nat, j = i + runLen namB s i := ⟨_, rfl⟩
  rw [← hT, ← hj] at WH
  rw [← hT, ← hj]
  have hw2 : decide (32 < (T.size : Int)) = false := decide_eq_false (by omega)
  have HWH := Lib.hid WH
  clear D hd GR hgr WH hj hT hTs 
  go_enter Tryd.func20, Tryd.ntmps20
  go_wp2_with fail
  go_step3
  go_wp2_with fail
  refine (HH'.out _ HS0.out.sc).mono ?_
  rintro e w1 ⟨rfl, n1, rfl⟩
  go_wp2_with fail
  refine (HD.out _).mono ?_
  rintro e w1 ⟨rfl, rfl⟩
  go_wp2_with fail
  refine (HGR.out _).mono ?_
  rintro e w1 ⟨rfl, rfl⟩
  go_wp2_with fail
  have S1 := (HS0.out.drewN n1).setT 0 (.int .i64 3)
  refine (HWH.out _ S1.sc).mono ?_
  rintro e w2 ⟨rfl, I2, K2, L2⟩
  have S2 := S1.scan I2 K2 L2
  have HS3 := Lib.hid S2
  clear S1 I2 K2 S2 L2 c0 c1
  have c0 := HS3.out.sc.cell0
  have c1 := HS3.out.sc.cell1
  have f1 := HS3.out.sc.froz
  have ct := HS3.out.t.cell
  have ft := HS3.out.t.frozen
  have cr := HS3.out.r.cell
  have fr := HS3.out.r.frozen
  go_wp2_with fail
  rw [Exit.noGoto_ret]
  exact bodyPost_ret (v := .tuple #[tokA 3 T 0 (.slice none 0 0) i, .int .i64 0]) (by simp [results, Tryd.results20, go_sem, cr]) rfl ⟨rfl, (HS3.out.setT 1 (.string T)).setR5 _ _ _ _ _⟩
set_option maxHeartbeats 2000000 in
set_option maxRecDepth 100000 in
theorem token_name_long (g : Nat) (s : ByteArray) (i : Nat) (w : World) (hI : ScAt w g s (i : Int)) (hlt : i < s.size) (hs : s.size ≤ 16384)
    (hd : digB (bt s (i : Int)) = false) (hq : (bt s (i : Int) == 34) = false) (hgr : greB (bt s (i : Int)) = false) (hsm : smaB (bt s (i : Int)) = true) (hl : 32 < runLen namB s i) :
    Calls Tryd.prog 20 #[.pointer (some ⟨g, 0, none⟩)] w fun e w' =>
      e = .returned (.tuple #[tokA 0 (s.extract i (i + runLen namB s i)) 0 (.slice none 0 0) i, .int .i64 153]) ∧ ScAt w' g s ((i + runLen namB s i : Nat) : Int) ∧ KeepBut w w' g none ∧ Below g w w' := by
  have c0 : w.cell? ⟨g, 0, none⟩ = some (.string s) := blk_cell hI 0
  have c1 : w.cell? ⟨g, 1, none⟩ = some (.int .i64 i) := blk_cell hI 1
  have hg := blk_lt hI
  have b1 := bt_range s (i : Int)
  have HH := fun w hI => here_any g s (i : Int) w hI (by omega)
  rw [hereB_lt hlt] at HH
  have HH' := Lib.hid HH
  have S0 := St.start w hI #[.int .i64 0, .string ⟨#[]⟩, .int .i64 0, .slice none 0 0, .int .i64 0] #[.int .i64 0, .string ⟨#[]⟩, .int .i64 0, .slice none 0 0, .int .i64 i]
  have HS0 := Lib.hid S0
  clear HH S0 hI
  have D := fun w => digit_any (bt s (i : Int)) w
  rw [hd] at D
  have HD := Lib.hid D
  have GR := fun w => great_any (bt s (i : Int)) w
  rw [hgr] at GR
  have HGR := Lib.hid GR
  have SM := fun w => small_any (bt s (i : Int)) w
  rw [hsm] at SM
  have HSM := Lib.hid SM
  have WH := fun w hI => while_named g s i w hI (by omega) hs
  have hle := run_le namB s i (by omega)
  obtain ⟨T, hT⟩ : ∃ T, T = s.extract i (i + runLen namB s i) := ⟨_, rfl⟩
  have hTs : T.size = runLen namB s i := by rw [hT, ByteArray.size_extract]; omega
  obtain ⟨j, hj⟩ : ∃ j : Nat, j = i + runLen namB s i := ⟨_, rfl⟩
  rw [← hT, ← hj] at WH
  rw [← hT, ← hj]
  have hw2 : decide (32 < (T.size : Int)) = true := decide_eq_true (by omega)
  have HWH := Lib.hid WH
  clear D hd GR hgr WH hj hT hTs SM hsm
  go_enter Tryd.func20, Tryd.ntmps20
  go_wp2_with fail
  go_step3
  go_wp2_with fail
  refine (HH'.out _ HS0.out.sc).mono ?_
  rintro e w1 ⟨rfl, n1, rfl⟩
  go_wp2_with fail
  refine (HD.out _).mono ?_
  rintro e w1 ⟨rfl, rfl⟩
  go_wp2_with fail
  refine (HGR.out _).mono ?_
  rintro e w1 ⟨rfl, rfl⟩
  go_wp2_with fail
  refine (HSM.out _).mono ?_
  rintro e w1 ⟨rfl, rfl⟩
  go_wp2_with fail
  have S1 := HS0.out.drewN n1
  refine (HWH.out _ S1.sc).mono ?_
  rintro e w2 ⟨rfl, I2, K2, L2⟩
  have S2 := S1.scan I2 K2 L2
  have HS3 := Lib.hid S2
  clear S1 I2 K2 S2 L2 c0 c1
  have c0 := HS3.out.sc.cell0
  have c1 := HS3.out.sc.cell1
  have f1 := HS3.out.sc.froz
  have ct := HS3.out.t.cell
  have ft := HS3.out.t.frozen
  have cr := HS3.out.r.cell
  have fr := HS3.out.r.frozen
  go_wp2_with fail
  rw [Exit.noGoto_ret]
  exact bodyPost_ret (v := .tuple #[tokA 0 T 0 (.slice none 0 0) i, .int .i64 153]) (by simp [results, Tryd.results20, go_sem, cr]) rfl ⟨rfl, (HS3.out.setT 1 (.string T)).setR5 _ _ _ _ _⟩
set_option maxHeartbeats 2000000 in
set_option maxRecDepth 100000 in
theorem token_word (g : Nat) (s : ByteArray) (i : Nat) (w : World) (w0 : World) (hG : Glob w0) (hB : Below w0.heap.size w0 w) (hgg : w0.heap.size ≤ g) (hI : ScAt w g s (i : Int)) (hlt : i < s.size) (hs : s.size ≤ 16384)
    (hd : digB (bt s (i : Int)) = false) (hq : (bt s (i : Int) == 34) = false) (hgr : greB (bt s (i : Int)) = false) (hsm : smaB (bt s (i : Int)) = true) (hl : runLen namB s i ≤ 32) (hwd : lexWord (s.extract i (i + runLen namB s i)) = true) :
    Calls Tryd.prog 20 #[.pointer (some ⟨g, 0, none⟩)] w fun e w' =>
      e = .returned (.tuple #[tokA 6 (s.extract i (i + runLen namB s i)) 0 (.slice none 0 0) i, .int .i64 0]) ∧ ScAt w' g s ((i + runLen namB s i : Nat) : Int) ∧ KeepBut w w' g none ∧ Below g w w' := by
  have c0 : w.cell? ⟨g, 0, none⟩ = some (.string s) := blk_cell hI 0
  have c1 : w.cell? ⟨g, 1, none⟩ = some (.int .i64 i) := blk_cell hI 1
  have hg := blk_lt hI
  have b1 := bt_range s (i : Int)
  have HH := fun w hI => here_any g s (i : Int) w hI (by omega)
  rw [hereB_lt hlt] at HH
  have HH' := Lib.hid HH
  have S0 := St.start w hI #[.int .i64 0, .string ⟨#[]⟩, .int .i64 0, .slice none 0 0, .int .i64 0] #[.int .i64 0, .string ⟨#[]⟩, .int .i64 0, .slice none 0 0, .int .i64 i]
  have HS0 := Lib.hid S0
  clear HH S0 hI
  have D := fun w => digit_any (bt s (i : Int)) w
  rw [hd] at D
  have HD := Lib.hid D
  have GR := fun w => great_any (bt s (i : Int)) w
  rw [hgr] at GR
  have HGR := Lib.hid GR
  have SM := fun w => small_any (bt s (i : Int)) w
  rw [hsm] at SM
  have HSM := Lib.hid SM
  have WH := fun w hI => while_named g s i w hI (by omega) hs
  have hle := run_le namB s i (by omega)
  obtain ⟨T, hT⟩ : ∃ T, T = s.extract i (i + runLen namB s i) := ⟨_, rfl⟩
  have hTs : T.size = runLen namB s i := by rw [hT, ByteArray.size_extract]; omega
  obtain ⟨j, hj⟩ : ∃ j : Nat, j = i + runLen namB s i := ⟨_, rfl⟩
  rw [← hT, ← hj] at WH
  rw [← hT, ← hj]
  have hw2 : decide (32 < (T.size : Int)) = false := decide_eq_false (by omega)
  have HWH := Lib.hid WH
  rw [← hT] at hwd
  have WD := fun w hG => word_any T w hG (by omega)
  rw [hwd] at WD
  have HWD := Lib.hid WD
  clear hwd
  clear D hd GR hgr WH hj hT hTs SM hsm WD
  go_enter Tryd.func20, Tryd.ntmps20
  go_wp2_with fail
  go_step3
  go_wp2_with fail
  refine (HH'.out _ HS0.out.sc).mono ?_
  rintro e w1 ⟨rfl, n1, rfl⟩
  go_wp2_with fail
  refine (HD.out _).mono ?_
  rintro e w1 ⟨rfl, rfl⟩
  go_wp2_with fail
  refine (HGR.out _).mono ?_
  rintro e w1 ⟨rfl, rfl⟩
  go_wp2_with fail
  refine (HSM.out _).mono ?_
  rintro e w1 ⟨rfl, rfl⟩
  go_wp2_with fail
  have S1 := HS0.out.drewN n1
  refine (HWH.out _ S1.sc).mono ?_
  rintro e w2 ⟨rfl, I2, K2, L2⟩
  have S2 := S1.scan I2 K2 L2
  have HS3 := Lib.hid S2
  have G2 := Lib.hid (S2.glob hG hB hgg)
  clear S1 I2 K2 S2 L2 c0 c1
  have c0 := HS3.out.sc.cell0
  have c1 := HS3.out.sc.cell1
  have f1 := HS3.out.sc.froz
  have ct := HS3.out.t.cell
  have ft := HS3.out.t.frozen
  have cr := HS3.out.r.cell
  have fr := HS3.out.r.frozen
  go_wp2_with fail
  refine (HWD.out _ ((HS3.out.setT 1 (.string T)).setT 0 (.int .i64 2) |>.glob hG hB hgg)).mono ?_
  rintro e w5 ⟨rfl, n5, hw5⟩
  have S5 := ((HS3.out.setT 1 (.string T)).setT 0 (.int .i64 2)).drewN n5
  rw [← hw5] at S5
  have HS5 := Lib.hid S5
  clear S5 hw5 c0 c1 f1 ct ft cr fr HS3
  have c0 := HS5.out.sc.cell0
  have c1 := HS5.out.sc.cell1
  have f1 := HS5.out.sc.froz
  have ct := HS5.out.t.cell
  have ft := HS5.out.t.frozen
  have cr := HS5.out.r.cell
  have fr := HS5.out.r.frozen
  go_wp2_with fail
  rw [Exit.noGoto_ret]
  exact bodyPost_ret (v := .tuple #[tokA 6 T 0 (.slice none 0 0) i, .int .i64 0]) (by simp [results, Tryd.results20, go_sem, cr]) rfl ⟨rfl, (HS5.out.setT 0 (.int .i64 6)).setR5 _ _ _ _ _⟩
set_option maxHeartbeats 2000000 in
set_option maxRecDepth 100000 in
theorem token_atom (g : Nat) (s : ByteArray) (i : Nat) (w : World) (w0 : World) (hG : Glob w0) (hB : Below w0.heap.size w0 w) (hgg : w0.heap.size ≤ g) (hI : ScAt w g s (i : Int)) (hlt : i < s.size) (hs : s.size ≤ 16384)
    (hd : digB (bt s (i : Int)) = false) (hq : (bt s (i : Int) == 34) = false) (hgr : greB (bt s (i : Int)) = false) (hsm : smaB (bt s (i : Int)) = true) (hl : runLen namB s i ≤ 32) (hwd : lexWord (s.extract i (i + runLen namB s i)) = false) :
    Calls Tryd.prog 20 #[.pointer (some ⟨g, 0, none⟩)] w fun e w' =>
      e = .returned (.tuple #[tokA 2 (s.extract i (i + runLen namB s i)) 0 (.slice none 0 0) i, .int .i64 0]) ∧ ScAt w' g s ((i + runLen namB s i : Nat) : Int) ∧ KeepBut w w' g none ∧ Below g w w' := by
  have c0 : w.cell? ⟨g, 0, none⟩ = some (.string s) := blk_cell hI 0
  have c1 : w.cell? ⟨g, 1, none⟩ = some (.int .i64 i) := blk_cell hI 1
  have hg := blk_lt hI
  have b1 := bt_range s (i : Int)
  have HH := fun w hI => here_any g s (i : Int) w hI (by omega)
  rw [hereB_lt hlt] at HH
  have HH' := Lib.hid HH
  have S0 := St.start w hI #[.int .i64 0, .string ⟨#[]⟩, .int .i64 0, .slice none 0 0, .int .i64 0] #[.int .i64 0, .string ⟨#[]⟩, .int .i64 0, .slice none 0 0, .int .i64 i]
  have HS0 := Lib.hid S0
  clear HH S0 hI
  have D := fun w => digit_any (bt s (i : Int)) w
  rw [hd] at D
  have HD := Lib.hid D
  have GR := fun w => great_any (bt s (i : Int)) w
  rw [hgr] at GR
  have HGR := Lib.hid GR
  have SM := fun w => small_any (bt s (i : Int)) w
  rw [hsm] at SM
  have HSM := Lib.hid SM
  have WH := fun w hI => while_named g s i w hI (by omega) hs
  have hle := run_le namB s i (by omega)
  obtain ⟨T, hT⟩ : ∃ T, T = s.extract i (i + runLen namB s i) := ⟨_, rfl⟩
  have hTs : T.size = runLen namB s i := by rw [hT, ByteArray.size_extract]; omega
  obtain ⟨j, hj⟩ : ∃ j : Nat, j = i + runLen namB s i := ⟨_, rfl⟩
  rw [← hT, ← hj] at WH
  rw [← hT, ← hj]
  have hw2 : decide (32 < (T.size : Int)) = false := decide_eq_false (by omega)
  have HWH := Lib.hid WH
  rw [← hT] at hwd
  have WD := fun w hG => word_any T w hG (by omega)
  rw [hwd] at WD
  have HWD := Lib.hid WD
  clear hwd
  clear D hd GR hgr WH hj hT hTs SM hsm WD
  go_enter Tryd.func20, Tryd.ntmps20
  go_wp2_with fail
  go_step3
  go_wp2_with fail
  refine (HH'.out _ HS0.out.sc).mono ?_
  rintro e w1 ⟨rfl, n1, rfl⟩
  go_wp2_with fail
  refine (HD.out _).mono ?_
  rintro e w1 ⟨rfl, rfl⟩
  go_wp2_with fail
  refine (HGR.out _).mono ?_
  rintro e w1 ⟨rfl, rfl⟩
  go_wp2_with fail
  refine (HSM.out _).mono ?_
  rintro e w1 ⟨rfl, rfl⟩
  go_wp2_with fail
  have S1 := HS0.out.drewN n1
  refine (HWH.out _ S1.sc).mono ?_
  rintro e w2 ⟨rfl, I2, K2, L2⟩
  have S2 := S1.scan I2 K2 L2
  have HS3 := Lib.hid S2
  have G2 := Lib.hid (S2.glob hG hB hgg)
  clear S1 I2 K2 S2 L2 c0 c1
  have c0 := HS3.out.sc.cell0
  have c1 := HS3.out.sc.cell1
  have f1 := HS3.out.sc.froz
  have ct := HS3.out.t.cell
  have ft := HS3.out.t.frozen
  have cr := HS3.out.r.cell
  have fr := HS3.out.r.frozen
  go_wp2_with fail
  refine (HWD.out _ ((HS3.out.setT 1 (.string T)).setT 0 (.int .i64 2) |>.glob hG hB hgg)).mono ?_
  rintro e w5 ⟨rfl, n5, hw5⟩
  have S5 := ((HS3.out.setT 1 (.string T)).setT 0 (.int .i64 2)).drewN n5
  rw [← hw5] at S5
  have HS5 := Lib.hid S5
  clear S5 hw5 c0 c1 f1 ct ft cr fr HS3
  have c0 := HS5.out.sc.cell0
  have c1 := HS5.out.sc.cell1
  have f1 := HS5.out.sc.froz
  have ct := HS5.out.t.cell
  have ft := HS5.out.t.frozen
  have cr := HS5.out.r.cell
  have fr := HS5.out.r.frozen
  go_wp2_with fail
  rw [Exit.noGoto_ret]
  exact bodyPost_ret (v := .tuple #[tokA 2 T 0 (.slice none 0 0) i, .int .i64 0]) (by simp [results, Tryd.results20, go_sem, cr]) rfl ⟨rfl, (HS5.out).setR5 _ _ _ _ _⟩
end Go.Proofs.YtejidddjkngoiaaDoor
