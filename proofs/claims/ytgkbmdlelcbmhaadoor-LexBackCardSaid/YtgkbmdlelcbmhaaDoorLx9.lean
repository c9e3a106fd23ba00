/- lex: what Spell answers for every kind but the quoted texts. -/
import Derived.Test.YtgkbmdlelcbmhaaDoorLx8
namespace Go.Proofs.YtgkbmdlelcbmhaaDoor
open Go.RowKit Go.Proofs.YtgkbmdlelcbmhaaDoorW.PrintWords
set_option linter.all false
theorem below_more (w : World) (k : Nat) (os : Array Obj) : Below w.heap.size w («Sort».grow (w.drewN k) os) :=
  ⟨rfl, rfl, rfl, by show w.heap.size ≤ (w.heap ++ os).size; rw [Array.size_append]; omega, fun j hj => by
    show (w.heap ++ os)[j]? = w.heap[j]?
    rw [Array.getElem?_append_left hj]⟩
set_option maxHeartbeats 1000000 in
set_option maxRecDepth 100000 in
theorem spell_name (kd : Int) (s : ByteArray) (n : Int) (v3 : Value) (p : Int) (w : World) (hk : kd = 2 ∨ kd = 3 ∨ kd = 5 ∨ kd = 6) :
    Calls Tryd.prog 17 #[.agg #[.int .i64 kd, .string s, .int .i64 n, v3, .int .i64 p]] w fun e w' => e = .returned (.string s) ∧ Below w.heap.size w w' := by
  rcases hk with rfl | rfl | rfl | rfl
  all_goals
    go_enter Tryd.func17, Tryd.ntmps17
    go_wp2_with fail
    go_ret
    exact ⟨rfl, below_alloc (Below.refl _ _) _⟩
set_option maxHeartbeats 1000000 in
set_option maxRecDepth 100000 in
theorem spell_neg (s : ByteArray) (n : Int) (v3 : Value) (p : Int) (w : World) (hn : n < 0) :
    Calls Tryd.prog 17 #[.agg #[.int .i64 1, .string s, .int .i64 n, v3, .int .i64 p]] w fun e w' => e = .returned (.string ⟨#[]⟩) ∧ Below w.heap.size w w' := by
  have hd := decide_eq_true hn
  go_enter Tryd.func17, Tryd.ntmps17
  go_wp2_with fail
  go_ret
  exact ⟨rfl, below_alloc (Below.refl _ _) _⟩
set_option maxHeartbeats 1000000 in
set_option maxRecDepth 100000 in
theorem spell_int (s : ByteArray) (n : Int) (v3 : Value) (p : Int) (w : World) (hG : Glob w) (hn : 0 ≤ n) (hn2 : n ≤ 9223372036854775807) :
    Calls Tryd.prog 17 #[.agg #[.int .i64 1, .string s, .int .i64 n, v3, .int .i64 p]] w fun e w' => e = .returned (.string ⟨(Lib.itoa n).toArray⟩) ∧ Below w.heap.size w w' := by
  have hd := decide_eq_false (Int.not_lt.mpr hn)
  have HF := Lib.hid (fun w => Tryd.strconv_FormatInt_10 n (by omega) hn2 w)
  have HG := Lib.hid hG
  clear hG
  go_enter Tryd.func17, Tryd.ntmps17
  go_wp2_with fail
  refine (HF.out _ (HG.out.below (below_alloc (Below.refl _ _) _)).here.2.1).mono ?_
  rintro e w1 ⟨rfl, k, os, rfl⟩
  go_wp2_with fail
  go_ret
  exact ⟨rfl, (below_alloc (Below.refl _ _) _).trans ((below_more _ k os).mono (below_alloc (Below.refl _ _) _).size)⟩
set_option maxHeartbeats 1000000 in
set_option maxRecDepth 100000 in
theorem spell_none (kd : Int) (s : ByteArray) (n : Int) (v3 : Value) (p : Int) (w : World) (h1 : kd ≠ 1) (h2 : kd ≠ 2) (h3 : kd ≠ 3) (h4 : kd ≠ 4) (h5 : kd ≠ 5) (h6 : kd ≠ 6) :
    Calls Tryd.prog 17 #[.agg #[.int .i64 kd, .string s, .int .i64 n, v3, .int .i64 p]] w fun e w' => e = .returned (.string ⟨#[]⟩) ∧ Below w.heap.size w w' := by
  have d1 : (kd == 1) = false := by simpa using h1
  have d2 : (kd == 2) = false := by simpa using h2
  have d3 : (kd == 3) = false := by simpa using h3
  have d4 : (kd == 4) = false := by simpa using h4
  have d5 : (kd == 5) = false := by simpa using h5
  have d6 : (kd == 6) = false := by simpa using h6
  go_enter Tryd.func17, Tryd.ntmps17
  go_wp2_with fail
  go_ret
  exact ⟨rfl, below_alloc (Below.refl _ _) _⟩
end Go.Proofs.YtgkbmdlelcbmhaaDoor
