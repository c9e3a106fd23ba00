/- lex: the token that is no int: its number is none, too great, or a letter stands behind it. -/
import Derived.Test.YtejidddjkngoiaaDoorLx3
namespace Go.Proofs.YtejidddjkngoiaaDoor
open Go.RowKit Go.Proofs.YtejidddjkngoiaaDoorW.PrintWords
set_option linter.all false
set_option maxHeartbeats 2000000 in
set_option maxRecDepth 100000 in
theorem token_int_bad (g : Nat) (s : ByteArray) (i : Nat) (w : World) (w0 : World) (hG : Glob w0) (hB : Below w0.heap.size w0 w) (hgg : w0.heap.size ≤ g) (hI : ScAt w g s (i : Int)) (hlt : i < s.size) (hs : s.size ≤ 16384)
    (hd : digB (bt s (i : Int)) = true) (hp : ∀ v, Lib.parseIntB 64 (s.extract i (i + runLen digB s i)).data.toList ≠ .ok v) :
    Calls Tryd.prog 20 #[.pointer (some ⟨g, 0, none⟩)] w fun e w' =>
      e = .returned (.tuple #[tokA 1 ⟨#[]⟩ 0 (.slice none 0 0) i, .int .i64 152]) ∧ ScAt w' g s ((i + runLen digB s i : Nat) : Int) ∧ KeepBut w w' g none ∧ Below g w w' := by
  have c0 : w.cell? ⟨g, 0, none⟩ = some (.string s) := blk_cell hI 0
  have c1 : w.cell? ⟨g, 1, none⟩ = some (.int .i64 i) := blk_cell hI 1
  have hg := blk_lt hI
  have b1 := bt_range s (i : Int)
  have HH := fun w hI => here_any g s (i : Int) w hI (by omega)
  rw [hereB_lt hlt] at HH
  have HH' := Lib.hid HH
  have S0 := St.start w hI #[.int .i64 0, .string ⟨#[]⟩, .int .i64 0, .slice none 0 0, .int .i64 0] #[.int .i64 0, .string ⟨#[]⟩, .int .i64 0, .slice none 0 0, .int .i64 i]
  have HS0 := Lib.hid S0
  clear HH S0 hI
  have D := fun w => digit_any (bt s (i : Int)) w
  rw [hd] at D
  have HD := Lib.hid D
  have WH := fun w hI => while_digit g s i w hI (by omega) hs
  have hle := run_le digB s i (by omega)
  obtain ⟨j, hj⟩ : ∃ j : Nat, j = i + runLen digB s i := ⟨_, rfl⟩
  rw [← hj] at WH hp hle ⊢
  have P := fun w hG => parse_bad (s.extract i j) w hG (by rw [ByteArray.size_extract]; omega) hp
  have HWH := Lib.hid WH
  have HP := Lib.hid P
  have qe : ∀ p w, (binOp .neq 65 (.iface 83 p) .nilIface).run Tryd.prog w = .ok (.bool true) w := fun p w => by kernel_rfl
  clear D hd WH P hp hj
  go_enter Tryd.func20, Tryd.ntmps20
  go_wp2_with fail
  go_step3
  go_wp2_with fail
  refine (HH'.out _ HS0.out.sc).mono ?_
  rintro e w1 ⟨rfl, n1, rfl⟩
  go_wp2_with fail
  refine (HD.out _).mono ?_
  rintro e w1 ⟨rfl, rfl⟩
  go_wp2_with fail
  have S1 := (HS0.out.drewN n1).setT 0 (.int .i64 1)
  refine (HWH.out _ S1.sc).mono ?_
  rintro e w2 ⟨rfl, I2, K2, L2⟩
  have S2 := S1.scan I2 K2 L2
  have G2 : Glob w2 := S2.glob hG hB hgg
  clear S1 I2 K2 L2
  go_wp2_with fail
  refine (HP.out _ G2).mono ?_
  rintro e w3 ⟨nn, pp, rfl, B3⟩
  have S3 := S2.below B3
  clear S2 B3
  have HS3 := Lib.hid S3
  clear S3 c0 c1
  have c0 := HS3.out.sc.cell0
  have c1 := HS3.out.sc.cell1
  have f1 := HS3.out.sc.froz
  have ct := HS3.out.t.cell
  have ft := HS3.out.t.frozen
  have cr := HS3.out.r.cell
  have fr := HS3.out.r.frozen
  go_wp2_with fail
  rw [Exit.noGoto_ret]
  exact bodyPost_ret (v := .tuple #[tokA 1 ⟨#[]⟩ 0 (.slice none 0 0) i, .int .i64 152]) (by simp [results, Tryd.results20, go_sem, cr]) rfl ⟨rfl, (HS3.out).setR5 _ _ _ _ _⟩
set_option maxHeartbeats 2000000 in
set_option maxRecDepth 100000 in
theorem token_int_big (g : Nat) (s : ByteArray) (i : Nat) (w : World) (hI : ScAt w g s (i : Int)) (hlt : i < s.size) (hs : s.size ≤ 16384)
    (hd : digB (bt s (i : Int)) = true) (v : Int) (hp : Lib.parseIntB 64 (s.extract i (i + runLen digB s i)).data.toList = .ok v) (hv : 4611686018427387903 < v) :
    Calls Tryd.prog 20 #[.pointer (some ⟨g, 0, none⟩)] w fun e w' =>
      e = .returned (.tuple #[tokA 1 ⟨#[]⟩ 0 (.slice none 0 0) i, .int .i64 152]) ∧ ScAt w' g s ((i + runLen digB s i : Nat) : Int) ∧ KeepBut w w' g none ∧ Below g w w' := by
  have c0 : w.cell? ⟨g, 0, none⟩ = some (.string s) := blk_cell hI 0
  have c1 : w.cell? ⟨g, 1, none⟩ = some (.int .i64 i) := blk_cell hI 1
  have hg := blk_lt hI
  have b1 := bt_range s (i : Int)
  have HH := fun w hI => here_any g s (i : Int) w hI (by omega)
  rw [hereB_lt hlt] at HH
  have HH' := Lib.hid HH
  have S0 := St.start w hI #[.int .i64 0, .string ⟨#[]⟩, .int .i64 0, .slice none 0 0, .int .i64 0] #[.int .i64 0, .string ⟨#[]⟩, .int .i64 0, .slice none 0 0, .int .i64 i]
  have HS0 := Lib.hid S0
  clear HH S0 hI
  have D := fun w => digit_any (bt s (i : Int)) w
  rw [hd] at D
  have HD := Lib.hid D
  have WH := fun w hI => while_digit g s i w hI (by omega) hs
  have hle := run_le digB s i (by omega)
  obtain ⟨j, hj⟩ : ∃ j : Nat, j = i + runLen digB s i := ⟨_, rfl⟩
  rw [← hj] at WH hp hle ⊢
  have P := fun w => parse_ok (s.extract i j) v w (by rw [ByteArray.size_extract]; omega) hp
  have HWH := Lib.hid WH
  have HP := Lib.hid P
  have qe : ∀ w, (binOp .neq 65 .nilIface .nilIface).run Tryd.prog w = .ok (.bool false) w := fun w => by kernel_rfl
  have hv2 : decide (4611686018427387903 < v) = true := decide_eq_true hv
  clear D hd WH P hp hj
  go_enter Tryd.func20, Tryd.ntmps20
  go_wp2_with fail
  go_step3
  go_wp2_with fail
  refine (HH'.out _ HS0.out.sc).mono ?_
  rintro e w1 ⟨rfl, n1, rfl⟩
  go_wp2_with fail
  refine (HD.out _).mono ?_
  rintro e w1 ⟨rfl, rfl⟩
  go_wp2_with fail
  have S1 := (HS0.out.drewN n1).setT 0 (.int .i64 1)
  refine (HWH.out _ S1.sc).mono ?_
  rintro e w2 ⟨rfl, I2, K2, L2⟩
  have S2 := S1.scan I2 K2 L2
  clear S1 I2 K2 L2
  go_wp2_with fail
  refine (HP.out _).mono ?_
  rintro e w3 ⟨rfl, B3⟩
  have S3 := S2.below B3
  clear S2 B3
  have HS3 := Lib.hid S3
  clear S3 c0 c1
  have c0 := HS3.out.sc.cell0
  have c1 := HS3.out.sc.cell1
  have f1 := HS3.out.sc.froz
  have ct := HS3.out.t.cell
  have ft := HS3.out.t.frozen
  have cr := HS3.out.r.cell
  have fr := HS3.out.r.frozen
  go_wp2_with fail
  rw [Exit.noGoto_ret]
  exact bodyPost_ret (v := .tuple #[tokA 1 ⟨#[]⟩ 0 (.slice none 0 0) i, .int .i64 152]) (by simp [results, Tryd.results20, go_sem, cr]) rfl ⟨rfl, (HS3.out).setR5 _ _ _ _ _⟩
set_option maxHeartbeats 2000000 in
set_option maxRecDepth 100000 in
theorem token_int_small (g : Nat) (s : ByteArray) (i : Nat) (w : World) (hI : ScAt w g s (i : Int)) (hlt : i < s.size) (hs : s.size ≤ 16384)
    (hd : digB (bt s (i : Int)) = true) (v : Int) (hp : Lib.parseIntB 64 (s.extract i (i + runLen digB s i)).data.toList = .ok v) (hv : v ≤ 4611686018427387903)
    (hsm : smaB (hereB s ((i + runLen digB s i : Nat) : Int)) = true) :
    Calls Tryd.prog 20 #[.pointer (some ⟨g, 0, none⟩)] w fun e w' =>
      e = .returned (.tuple #[tokA 1 ⟨#[]⟩ 0 (.slice none 0 0) i, .int .i64 152]) ∧ ScAt w' g s ((i + runLen digB s i : Nat) : Int) ∧ KeepBut w w' g none ∧ Below g w w' := by
  have c0 : w.cell? ⟨g, 0, none⟩ = some (.string s) := blk_cell hI 0
  have c1 : w.cell? ⟨g, 1, none⟩ = some (.int .i64 i) := blk_cell hI 1
  have hg := blk_lt hI
  have b1 := bt_range s (i : Int)
  have HH := fun w hI => here_any g s (i : Int) w hI (by omega)
  rw [hereB_lt hlt] at HH
  have HH' := Lib.hid HH
  have S0 := St.start w hI #[.int .i64 0, .string ⟨#[]⟩, .int .i64 0, .slice none 0 0, .int .i64 0] #[.int .i64 0, .string ⟨#[]⟩, .int .i64 0, .slice none 0 0, .int .i64 i]
  have HS0 := Lib.hid S0
  clear HH S0 hI
  have D := fun w => digit_any (bt s (i : Int)) w
  rw [hd] at D
  have HD := Lib.hid D
  have WH := fun w hI => while_digit g s i w hI (by omega) hs
  have hle := run_le digB s i (by omega)
  obtain ⟨j, hj⟩ : ∃ j : Nat, j = i + runLen digB s i := ⟨_, rfl⟩
  rw [← hj] at WH hp hsm hle ⊢
  have P := fun w => parse_ok (s.extract i j) v w (by rw [ByteArray.size_extract]; omega) hp
  have HWH := Lib.hid WH
  have HP := Lib.hid P
  have H2 := fun w hI => here_any g s (j : Int) w hI (by omega)
  obtain ⟨c2, hc2⟩ : ∃ c, c = hereB s (j : Int) := ⟨_, rfl⟩
  rw [← hc2] at H2 hsm
  have SM := fun w => small_any c2 w
  rw [hsm] at SM
  have HH2 := Lib.hid H2
  have HSM := Lib.hid SM
  have qe : ∀ w, (binOp .neq 65 .nilIface .nilIface).run Tryd.prog w = .ok (.bool false) w := fun w => by kernel_rfl
  have hv2 : decide (4611686018427387903 < v) = false := decide_eq_false (by omega)
  clear D hd WH P hp H2 SM hsm hc2 hj
  go_enter Tryd.func20, Tryd.ntmps20
  go_wp2_with fail
  go_step3
  go_wp2_with fail
  refine (HH'.out _ HS0.out.sc).mono ?_
  rintro e w1 ⟨rfl, n1, rfl⟩
  go_wp2_with fail
  refine (HD.out _).mono ?_
  rintro e w1 ⟨rfl, rfl⟩
  go_wp2_with fail
  have S1 := (HS0.out.drewN n1).setT 0 (.int .i64 1)
  refine (HWH.out _ S1.sc).mono ?_
  rintro e w2 ⟨rfl, I2, K2, L2⟩
  have S2 := S1.scan I2 K2 L2
  clear S1 I2 K2 L2
  go_wp2_with fail
  refine (HP.out _).mono ?_
  rintro e w3 ⟨rfl, B3⟩
  have S3 := S2.below B3
  clear S2 B3
  have HS3 := Lib.hid S3
  clear S3 c0 c1
  have c0 := HS3.out.sc.cell0
  have c1 := HS3.out.sc.cell1
  have f1 := HS3.out.sc.froz
  have ct := HS3.out.t.cell
  have ft := HS3.out.t.frozen
  have cr := HS3.out.r.cell
  have fr := HS3.out.r.frozen
  go_wp2_with fail
  refine (HH2.out _ HS3.out.sc).mono ?_
  rintro e w4 ⟨rfl, n4, rfl⟩
  go_wp2_with fail
  refine (HSM.out _).mono ?_
  rintro e w5 ⟨rfl, rfl⟩
  go_wp2_with fail
  rw [Exit.noGoto_ret]
  exact bodyPost_ret (v := .tuple #[tokA 1 ⟨#[]⟩ 0 (.slice none 0 0) i, .int .i64 152]) (by simp [results, Tryd.results20, go_sem, cr]) rfl ⟨rfl, (HS3.out.drewN n4).setR5 _ _ _ _ _⟩
set_option maxHeartbeats 2000000 in
set_option maxRecDepth 100000 in
theorem token_int_great (g : Nat) (s : ByteArray) (i : Nat) (w : World) (hI : ScAt w g s (i : Int)) (hlt : i < s.size) (hs : s.size ≤ 16384)
    (hd : digB (bt s (i : Int)) = true) (v : Int) (hp : Lib.parseIntB 64 (s.extract i (i + runLen digB s i)).data.toList = .ok v) (hv : v ≤ 4611686018427387903)
    (hsm : smaB (hereB s ((i + runLen digB s i : Nat) : Int)) = false) (hgr : greB (hereB s ((i + runLen digB s i : Nat) : Int)) = true) :
    Calls Tryd.prog 20 #[.pointer (some ⟨g, 0, none⟩)] w fun e w' =>
      e = .returned (.tuple #[tokA 1 ⟨#[]⟩ 0 (.slice none 0 0) i, .int .i64 152]) ∧ ScAt w' g s ((i + runLen digB s i : Nat) : Int) ∧ KeepBut w w' g none ∧ Below g w w' := by
  have c0 : w.cell? ⟨g, 0, none⟩ = some (.string s) := blk_cell hI 0
  have c1 : w.cell? ⟨g, 1, none⟩ = some (.int .i64 i) := blk_cell hI 1
  have hg := blk_lt hI
  have b1 := bt_range s (i : Int)
  have HH := fun w hI => here_any g s (i : Int) w hI (by omega)
  rw [hereB_lt hlt] at HH
  have HH' := Lib.hid HH
  have S0 := St.start w hI #[.int .i64 0, .string ⟨#[]⟩, .int .i64 0, .slice none 0 0, .int .i64 0] #[.int .i64 0, .string ⟨#[]⟩, .int .i64 0, .slice none 0 0, .int .i64 i]
  have HS0 := Lib.hid S0
  clear HH S0 hI
  have D := fun w => digit_any (bt s (i : Int)) w
  rw [hd] at D
  have HD := Lib.hid D
  have WH := fun w hI => while_digit g s i w hI (by omega) hs
  have hle := run_le digB s i (by omega)
  obtain ⟨j, hj⟩ : ∃ j : Nat, j = i + runLen digB s i := ⟨_, rfl⟩
  rw [← hj] at WH hp hsm hgr hle ⊢
  have P := fun w => parse_ok (s.extract i j) v w (by rw [ByteArray.size_extract]; omega) hp
  have HWH := Lib.hid WH
  have HP := Lib.hid P
  have H2 := fun w hI => here_any g s (j : Int) w hI (by omega)
  obtain ⟨c2, hc2⟩ : ∃ c, c = hereB s (j : Int) := ⟨_, rfl⟩
  rw [← hc2] at H2 hsm hgr
  have SM := fun w => small_any c2 w
  rw [hsm] at SM
  have HH2 := Lib.hid H2
  have HSM := Lib.hid SM
  have GR := fun w => great_any c2 w
  rw [hgr] at GR
  have HGR := Lib.hid GR
  have qe : ∀ w, (binOp .neq 65 .nilIface .nilIface).run Tryd.prog w = .ok (.bool false) w := fun w => by kernel_rfl
  have hv2 : decide (4611686018427387903 < v) = false := decide_eq_false (by omega)
  clear D hd WH P hp H2 SM GR hsm hgr hc2 hj
  go_enter Tryd.func20, Tryd.ntmps20
  go_wp2_with fail
  go_step3
  go_wp2_with fail
  refine (HH'.out _ HS0.out.sc).mono ?_
  rintro e w1 ⟨rfl, n1, rfl⟩
  go_wp2_with fail
  refine (HD.out _).mono ?_
  rintro e w1 ⟨rfl, rfl⟩
  go_wp2_with fail
  have S1 := (HS0.out.drewN n1).setT 0 (.int .i64 1)
  refine (HWH.out _ S1.sc).mono ?_
  rintro e w2 ⟨rfl, I2, K2, L2⟩
  have S2 := S1.scan I2 K2 L2
  clear S1 I2 K2 L2
  go_wp2_with fail
  refine (HP.out _).mono ?_
  rintro e w3 ⟨rfl, B3⟩
  have S3 := S2.below B3
  clear S2 B3
  have HS3 := Lib.hid S3
  clear S3 c0 c1
  have c0 := HS3.out.sc.cell0
  have c1 := HS3.out.sc.cell1
  have f1 := HS3.out.sc.froz
  have ct := HS3.out.t.cell
  have ft := HS3.out.t.frozen
  have cr := HS3.out.r.cell
  have fr := HS3.out.r.frozen
  go_wp2_with fail
  refine (HH2.out _ HS3.out.sc).mono ?_
  rintro e w4 ⟨rfl, n4, rfl⟩
  go_wp2_with fail
  refine (HSM.out _).mono ?_
  rintro e w5 ⟨rfl, rfl⟩
  go_wp2_with fail
  refine (HH2.out _ (HS3.out.drewN _).sc).mono ?_
  rintro e w4 ⟨rfl, n5, rfl⟩
  go_wp2_with fail
  refine (HGR.out _).mono ?_
  rintro e w5 ⟨rfl, rfl⟩
  go_wp2_with fail
  rw [Exit.noGoto_ret]
  exact bodyPost_ret (v := .tuple #[tokA 1 ⟨#[]⟩ 0 (.slice none 0 0) i, .int .i64 152]) (by simp [results, Tryd.results20, go_sem, cr]) rfl ⟨rfl, (HS3.out.drewN (n4 + n5)).setR5 _ _ _ _ _⟩
end Go.Proofs.YtejidddjkngoiaaDoor
