/- lex: the token that is a text within quotes; what quoted answers is handed in. -/
import Derived.Test.YtejidddjkngoiaaDoorLx3
import Derived.Test.YtejidddjkngoiaaDoorWLast
import Derived.Test.YtejidddjkngoiaaDoorWMore
namespace Go.Proofs.YtejidddjkngoiaaDoor
open Go.RowKit Go.Proofs.YtejidddjkngoiaaDoorW.PrintWords Go.Proofs.YtejidddjkngoiaaDoorW.PrintLast Go.Proofs.YtejidddjkngoiaaDoorW.PrintMore
set_option linter.all false

theorem below_of_keep {B w w' : World} {g : Nat} (h1 : Below B.heap.size B w) (h2 : Below B.heap.size B w') (hk : KeepBut w w' g none) (hg : g < w.heap.size) : Below g w w' :=
  ⟨h2.os.trans h1.os.symm, h2.tape.trans h1.tape.symm, h2.output.trans h1.output.symm, hk.1, fun k hk' => hk.2 k (by omega) (by omega) (by simp)⟩
/-- the rows of a text, apart from two blocks -/
def TR (W : World) (b gr gt : Nat) (v : Value) (l : List Int) : Prop := Kd.R (Kd.int .u8) 5 W b (fun k => k ≠ gr ∧ k ≠ gt) v l
theorem TR.mk {W : World} {b b' gr gt : Nat} {v : Value} {l : List Int} {R T : Array Value} (h : Kd.R (Kd.int .u8) 5 W b' (fun _ => True) v l) (hb : b ≤ b') (hr : BK W gr 44 R) (ht : BK W gt 44 T) : TR W b gr gt v l :=
  Kd.R_mono (Kd.R_types (Kd.R_types (Kd.R_raise (b := b') (b' := b) (fun _ _ _ _ h => h) h (fun k hk => Nat.le_trans hb (Kd.R_base h k hk))) hr (by decide)) ht (by decide)) (fun k hk => ⟨hk.1.2, hk.2⟩)
theorem TR.setT {W : World} {b gr gt : Nat} {v : Value} {l : List Int} (h : TR W b gr gt v l) (k : Nat) (u : Value) : TR (W.setCell ⟨gt, k, none⟩ u) b gr gt v l := Kd.R_far h (fun k hk => hk.2) u
theorem TR.setR {W : World} {b gr gt : Nat} {v : Value} {l : List Int} (h : TR W b gr gt v l) (k : Nat) (u : Value) : TR (W.setCell ⟨gr, k, none⟩ u) b gr gt v l := Kd.R_far h (fun k hk => hk.1) u
theorem TR.out {W : World} {b gr gt : Nat} {v : Value} {l : List Int} (h : TR W b gr gt v l) : Kd.R (Kd.int .u8) 5 W b (fun _ => True) v l := Kd.R_mono h (fun _ _ => trivial)
def QHyp (w0 : World) (g : Nat) (s : ByteArray) (i : Nat) (ok : Bool) (l : List Int) (s2 : ByteArray) (j2 : Int) : Prop :=
  ∀ w', ScAt w' g s (i : Int) → Below w0.heap.size w0 w' → Calls Tryd.prog 30 #[.pointer (some ⟨g, 0, none⟩)] w' fun e w'' =>
    ∃ v0_ : Value, e = .returned (.tuple #[v0_, .bool ok]) ∧ Kd.R (Kd.int .u8) 5 w'' w'.heap.size (fun _ => True) v0_ l ∧ ScAt w'' g s2 j2 ∧ Below w0.heap.size w0 w'' ∧ KeepBut w' w'' g none

set_option maxHeartbeats 2000000 in
set_option maxRecDepth 100000 in
theorem token_text_bad (g : Nat) (s : ByteArray) (i : Nat) (w w0 : World) (hI : ScAt w g s (i : Int)) (hlt : i < s.size) (hq : bt s (i : Int) = 34)
    (l : List Int) (s2 : ByteArray) (j2 : Int) (Q : QHyp w0 g s i false l s2 j2) (hB : Below w0.heap.size w0 w) (hgg : w0.heap.size ≤ g) :
    Calls Tryd.prog 20 #[.pointer (some ⟨g, 0, none⟩)] w fun e w' =>
      e = .returned (.tuple #[tokA 0 ⟨#[]⟩ 0 (.slice none 0 0) i, .int .i64 154]) ∧ ScAt w' g s2 j2 ∧ KeepBut w w' g none ∧ Below g w w' := by
  have c0 : w.cell? ⟨g, 0, none⟩ = some (.string s) := blk_cell hI 0
  have c1 : w.cell? ⟨g, 1, none⟩ = some (.int .i64 i) := blk_cell hI 1
  have hg := blk_lt hI
  have b1 := bt_range s (i : Int)
  have HH := fun w hI => here_any g s (i : Int) w hI (by omega)
  rw [hereB_lt hlt] at HH
  have HH' := Lib.hid HH
  have S0 := St.start w hI #[.int .i64 0, .string ⟨#[]⟩, .int .i64 0, .slice none 0 0, .int .i64 0] #[.int .i64 0, .string ⟨#[]⟩, .int .i64 0, .slice none 0 0, .int .i64 i]
  have HS0 := Lib.hid S0
  clear HH S0 hI
  rw [hq] at HH'
  have D := fun w => digit_any 34 w
  rw [show digB 34 = false from rfl] at D
  have HD := Lib.hid D
  have HQ := Lib.hid Q
  clear D hq Q b1
  go_enter Tryd.func20, Tryd.ntmps20
  go_wp2_with fail
  go_step3
  go_wp2_with fail
  refine (HH'.out _ HS0.out.sc).mono ?_
  rintro e w1 ⟨rfl, n1, rfl⟩
  go_wp2_with fail
  refine (HD.out _).mono ?_
  rintro e w1 ⟨rfl, rfl⟩
  go_wp2_with fail
  have S1 := HS0.out.drewN n1
  refine (HQ.out _ S1.sc (hB.trans (S1.bl.mono hgg))).mono ?_
  rintro e w2 ⟨v0, rfl, hv, I2, B2, K2⟩
  have S2 := S1.scan I2 K2 (below_of_keep (hB.trans (S1.bl.mono hgg)) B2 K2 (blk_lt S1.sc))
  have HS3 := Lib.hid S2
  clear S1 I2 K2 S2 hv B2 c0 c1
  have c0 := HS3.out.sc.cell0
  have c1 := HS3.out.sc.cell1
  have f1 := HS3.out.sc.froz
  have ct := HS3.out.t.cell
  have ft := HS3.out.t.frozen
  have cr := HS3.out.r.cell
  have fr := HS3.out.r.frozen
  go_wp2_with fail
  rw [Exit.noGoto_ret]
  exact bodyPost_ret (v := .tuple #[tokA 0 ⟨#[]⟩ 0 (.slice none 0 0) i, .int .i64 154]) (by simp [results, Tryd.results20, go_sem, cr]) rfl ⟨rfl, (HS3.out).setR5 _ _ _ _ _⟩
set_option maxHeartbeats 2000000 in
set_option maxRecDepth 100000 in
theorem token_text_ok (g : Nat) (s : ByteArray) (i : Nat) (w w0 : World) (hI : ScAt w g s (i : Int)) (hlt : i < s.size) (hq : bt s (i : Int) = 34)
    (l : List Int) (s2 : ByteArray) (j2 : Int) (Q : QHyp w0 g s i true l s2 j2) (hB : Below w0.heap.size w0 w) (hgg : w0.heap.size ≤ g) :
    Calls Tryd.prog 20 #[.pointer (some ⟨g, 0, none⟩)] w fun e w' =>
      ∃ v3_ : Value, e = .returned (.tuple #[tokA 4 ⟨#[]⟩ 0 v3_ i, .int .i64 0]) ∧ Kd.R (Kd.int .u8) 5 w' w.heap.size (fun _ => True) v3_ l ∧ ScAt w' g s2 j2 ∧ KeepBut w w' g none ∧ Below g w w' := by
  have c0 : w.cell? ⟨g, 0, none⟩ = some (.string s) := blk_cell hI 0
  have c1 : w.cell? ⟨g, 1, none⟩ = some (.int .i64 i) := blk_cell hI 1
  have hg := blk_lt hI
  have b1 := bt_range s (i : Int)
  have HH := fun w hI => here_any g s (i : Int) w hI (by omega)
  rw [hereB_lt hlt] at HH
  have HH' := Lib.hid HH
  have S0 := St.start w hI #[.int .i64 0, .string ⟨#[]⟩, .int .i64 0, .slice none 0 0, .int .i64 0] #[.int .i64 0, .string ⟨#[]⟩, .int .i64 0, .slice none 0 0, .int .i64 i]
  have HS0 := Lib.hid S0
  clear HH S0 hI
  rw [hq] at HH'
  have D := fun w => digit_any 34 w
  rw [show digB 34 = false from rfl] at D
  have HD := Lib.hid D
  have HQ := Lib.hid Q
  clear D hq Q b1
  go_enter Tryd.func20, Tryd.ntmps20
  go_wp2_with fail
  go_step3
  go_wp2_with fail
  refine (HH'.out _ HS0.out.sc).mono ?_
  rintro e w1 ⟨rfl, n1, rfl⟩
  go_wp2_with fail
  refine (HD.out _).mono ?_
  rintro e w1 ⟨rfl, rfl⟩
  go_wp2_with fail
  have S1 := HS0.out.drewN n1
  refine (HQ.out _ S1.sc (hB.trans (S1.bl.mono hgg))).mono ?_
  rintro e w2 ⟨v0, rfl, hv, I2, B2, K2⟩
  have S2 := S1.scan I2 K2 (below_of_keep (hB.trans (S1.bl.mono hgg)) B2 K2 (blk_lt S1.sc))
  have HT := Lib.hid (TR.mk (b := w.heap.size) hv (by have := S1.bl.size; exact this) S2.r S2.t)
  have HS3 := Lib.hid S2
  obtain ⟨A, c, rfl⟩ := Kd.R_slice hv
  clear S1 I2 K2 S2 hv B2 c0 c1
  have c0 := HS3.out.sc.cell0
  have c1 := HS3.out.sc.cell1
  have f1 := HS3.out.sc.froz
  have ct := HS3.out.t.cell
  have ft := HS3.out.t.frozen
  have cr := HS3.out.r.cell
  have fr := HS3.out.r.frozen
  go_wp2_with fail
  rw [Exit.noGoto_ret]
  have HT2 := (((((((HT.out.setT 0 (.int .i64 4)).setT 3 (.slice A l.length c)).setR 0 (.int .i64 4)).setR 1 (.string ⟨#[]⟩)).setR 2 (.int .i64 0)).setR 3 (.slice A l.length c)).setR 4 (.int .i64 i)).out
  exact bodyPost_ret (v := .tuple #[tokA 4 ⟨#[]⟩ 0 (.slice A l.length c) i, .int .i64 0]) (by simp [results, Tryd.results20, go_sem, cr]) rfl
    ⟨_, rfl, HT2, ((HS3.out.setT 0 (.int .i64 4)).setT 3 (.slice A l.length c)).setR5 _ _ _ _ _⟩
end Go.Proofs.YtejidddjkngoiaaDoor
