/- num: Int, Right, whole, of ints. The int is from MinInt to MaxInt. -/
import Derived.Test.YtehgneiiajpgpaaBas
namespace Go.Proofs.Ytehgneiiajpgpaa
open Go.RowKit
set_option linter.unusedVariables false

abbrev tm (k n : Int) (re im : Nat) : Value := .agg #[.int .i64 k, .int .i64 n, .complex .f64 re im, .string ⟨#[]⟩, .int .i64 0, .int .u32 0, .int .u64 0, .slice none 0 0, .slice none 0 0]

theorem int_ok (n : Int) (w : World) (h1 : -4611686018427387904 ≤ n) (h2 : n ≤ 4611686018427387903) :
    Calls Try.prog 10 #[.int .i64 n] w fun e w' => e = .returned (.tuple #[tm 1 n 0 0, .int .i64 0]) ∧ Below w.heap.size w w' := by
  have hcx := @run_store_cx Try.prog
  go_enter Try.func10, Try.ntmps10
  go_wp2
  exact bodyPost_ret (v := .tuple #[tm 1 n 0 0, .int .i64 0]) (by simp [results, Try.results10, go_sem, tm]) rfl ⟨rfl, (Below.refl _ _).alloc (Nat.le_refl _) _⟩

theorem int_no (n : Int) (w : World) (h : n < -4611686018427387904 ∨ 4611686018427387903 < n) :
    Calls Try.prog 10 #[.int .i64 n] w fun e w' => e = .returned (.tuple #[tm 0 0 0 0, .int .i64 12]) ∧ Below w.heap.size w w' := by
  have hcx := @run_store_cx Try.prog
  rcases h with h | h
  · go_enter Try.func10, Try.ntmps10
    go_wp2
    exact bodyPost_ret (v := .tuple #[tm 0 0 0 0, .int .i64 12]) (by simp [results, Try.results10, go_sem, tm]) rfl ⟨rfl, (Below.refl _ _).alloc (Nat.le_refl _) _⟩
  · have h' : ¬ n < -4611686018427387904 := by omega
    go_enter Try.func10, Try.ntmps10
    go_wp2
    exact bodyPost_ret (v := .tuple #[tm 0 0 0 0, .int .i64 12]) (by simp [results, Try.results10, go_sem, tm]) rfl ⟨rfl, (Below.refl _ _).alloc (Nat.le_refl _) _⟩

/-- what Int answers -/
def inR (n : Int) : Prop := -4611686018427387904 ≤ n ∧ n ≤ 4611686018427387903
instance (n : Int) : Decidable (inR n) := inferInstanceAs (Decidable (_ ∧ _))
noncomputable def mkInt (n : Int) : Value := if inR n then .tuple #[tm 1 n 0 0, .int .i64 0] else .tuple #[tm 0 0 0 0, .int .i64 12]
theorem int_any (n : Int) (w : World) :
    Calls Try.prog 10 #[.int .i64 n] w fun e w' => e = .returned (mkInt n) ∧ Below w.heap.size w w' := by
  unfold mkInt
  by_cases h : inR n
  · rw [if_pos h]; exact int_ok n w h.1 h.2
  · rw [if_neg h]; exact int_no n w (by unfold inR at h; omega)

theorem ord00 : FloatKind.f64.format.order 0 0 = some .eq := by kernel_rfl
set_option maxHeartbeats 400000 in
theorem right_int (n : Int) (w : World) (h1 : -4611686018427387904 ≤ n) (h2 : n ≤ 4611686018427387903) :
    Calls Try.prog 28 #[tm 1 n 0 0] w fun e w' => e = .returned (.bool true) ∧ Below w.heap.size w w' := by
  have hcx := @run_store_cx Try.prog
  have h00 := ord00
  unfold tm
  go_enter Try.func28, Try.ntmps28
  go_wp2
  go_ret
  exact ⟨rfl, (Below.refl _ _).alloc (Nat.le_refl _) _⟩

theorem sub00 (w : World) : (binOp .sub 67 (.float .f64 0) (.float .f64 0)).run Try.prog w = .ok (.float .f64 0) w := by kernel_rfl
theorem sub11 (w : World) : (binOp .sub 67 (.float .f64 4607182418800017408) (.float .f64 4607182418800017408)).run Try.prog w = .ok (.float .f64 0) w := by kernel_rfl
theorem quo10 (w : World) : (binOp .quo 67 (.float .f64 4607182418800017408) (.float .f64 0)).run Try.prog w = .ok (.float .f64 9218868437227405312) w := by kernel_rfl
theorem lssi0 (w : World) : (binOp .lss 67 (.float .f64 9218868437227405312) (.float .f64 0)).run Try.prog w = .ok (.bool false) w := by kernel_rfl
theorem eql00 (w : World) : (binOp .eql 67 (.float .f64 0) (.float .f64 0)).run Try.prog w = .ok (.bool true) w := by kernel_rfl
theorem eql10 (w : World) : (binOp .eql 67 (.float .f64 4607182418800017408) (.float .f64 0)).run Try.prog w = .ok (.bool false) w := by kernel_rfl
theorem ordi0 : FloatKind.f64.format.order 9218868437227405312 0 = some .gt := by kernel_rfl
theorem ord10 : FloatKind.f64.format.order 4607182418800017408 0 = some .gt := by kernel_rfl
set_option maxHeartbeats 400000 in
theorem right_cx (w : World) :
    Calls Try.prog 28 #[tm 2 0 0 4607182418800017408] w fun e w' => e = .returned (.bool true) ∧ Below w.heap.size w w' := by
  have hcx := @run_store_cx Try.prog
  have e1 := sub00; have e2 := sub11; have e3 := quo10; have e4 := lssi0; have e5 := eql00; have e6 := eql10
  have o1 := ordi0; have o2 := ord10; have o3 := ord00
  unfold tm
  go_enter Try.func28, Try.ntmps28
  go_wp2
  go_region
  all_goals go_wp2
  go_ret
  exact ⟨rfl, ((Below.refl _ _).alloc (Nat.le_refl _) _).drew⟩

abbrev err (n : Int) : Value := .tuple #[tm 0 0 0 0, .int .i64 n]

theorem mkInt_ok {n : Int} (h : inR n) : mkInt n = .tuple #[tm 1 n 0 0, .int .i64 0] := if_pos h
theorem mkInt_no {n : Int} (h : ¬ inR n) : mkInt n = err 12 := if_neg h
theorem notR {n : Int} (h : ¬ inR n) : n < -4611686018427387904 ∨ 4611686018427387903 < n := by unfold inR at h; omega
set_option maxHeartbeats 400000 in
theorem whole_add (a b : Int) (w : World) (a1 : -4611686018427387904 ≤ a) (a2 : a ≤ 4611686018427387903) (b1 : -4611686018427387904 ≤ b) (b2 : b ≤ 4611686018427387903) :
    Calls Try.prog 29 #[.int .i64 1, .int .i64 a, .int .i64 b] w fun e w' => e = .returned (mkInt (a + b)) ∧ Below w.heap.size w w' := by
  have hcx := @run_store_cx Try.prog
  by_cases h : inR (a + b)
  · rw [mkInt_ok h]
    (go_enter Try.func29, Try.ntmps29; go_wp2_with (go_at_call 10; refine (int_ok _ _ h.1 h.2).mono ?_; rintro e w' ⟨rfl, hb⟩; obtain ⟨hc, hf⟩ := bcell hb; have hz := hb.size; simp at hz hc hf))
    exact bodyPost_ret (v := .tuple #[tm 1 (a + b) 0 0, .int .i64 0]) (by simp [results, Try.results29, go_sem, hc]) rfl ⟨rfl, by (repeat (first | (with_reducible exact Below.refl _ _) | (with_reducible refine bl_alloc ?_ _) | (with_reducible refine bl_drewN ?_ _) | (with_reducible refine bl_drew ?_) | (with_reducible refine bl_set ?_ (by dsimp only; omega) _) | (with_reducible refine bl_call ?_ rfl hb)))⟩
  · rw [mkInt_no h]
    have h' := notR h
    clear h
    (go_enter Try.func29, Try.ntmps29; go_wp2_with (go_at_call 10; refine (int_no _ _ h').mono ?_; rintro e w' ⟨rfl, hb⟩; obtain ⟨hc, hf⟩ := bcell hb; have hz := hb.size; simp at hz hc hf))
    exact bodyPost_ret (v := err 12) (by simp [results, Try.results29, go_sem, hc]) rfl ⟨rfl, by (repeat (first | (with_reducible exact Below.refl _ _) | (with_reducible refine bl_alloc ?_ _) | (with_reducible refine bl_drewN ?_ _) | (with_reducible refine bl_drew ?_) | (with_reducible refine bl_set ?_ (by dsimp only; omega) _) | (with_reducible refine bl_call ?_ rfl hb)))⟩
set_option maxHeartbeats 400000 in
theorem whole_sub (a b : Int) (w : World) (a1 : -4611686018427387904 ≤ a) (a2 : a ≤ 4611686018427387903) (b1 : -4611686018427387904 ≤ b) (b2 : b ≤ 4611686018427387903) :
    Calls Try.prog 29 #[.int .i64 2, .int .i64 a, .int .i64 b] w fun e w' => e = .returned (mkInt (a - b)) ∧ Below w.heap.size w w' := by
  have hcx := @run_store_cx Try.prog
  by_cases h : inR (a - b)
  · rw [mkInt_ok h]
    (go_enter Try.func29, Try.ntmps29; go_wp2_with (go_at_call 10; refine (int_ok _ _ h.1 h.2).mono ?_; rintro e w' ⟨rfl, hb⟩; obtain ⟨hc, hf⟩ := bcell hb; have hz := hb.size; simp at hz hc hf))
    exact bodyPost_ret (v := .tuple #[tm 1 (a - b) 0 0, .int .i64 0]) (by simp [results, Try.results29, go_sem, hc]) rfl ⟨rfl, by (repeat (first | (with_reducible exact Below.refl _ _) | (with_reducible refine bl_alloc ?_ _) | (with_reducible refine bl_drewN ?_ _) | (with_reducible refine bl_drew ?_) | (with_reducible refine bl_set ?_ (by dsimp only; omega) _) | (with_reducible refine bl_call ?_ rfl hb)))⟩
  · rw [mkInt_no h]
    have h' := notR h
    clear h
    (go_enter Try.func29, Try.ntmps29; go_wp2_with (go_at_call 10; refine (int_no _ _ h').mono ?_; rintro e w' ⟨rfl, hb⟩; obtain ⟨hc, hf⟩ := bcell hb; have hz := hb.size; simp at hz hc hf))
    exact bodyPost_ret (v := err 12) (by simp [results, Try.results29, go_sem, hc]) rfl ⟨rfl, by (repeat (first | (with_reducible exact Below.refl _ _) | (with_reducible refine bl_alloc ?_ _) | (with_reducible refine bl_drewN ?_ _) | (with_reducible refine bl_drew ?_) | (with_reducible refine bl_set ?_ (by dsimp only; omega) _) | (with_reducible refine bl_call ?_ rfl hb)))⟩
theorem mul_tdiv (a b : Int) (h : ¬ a = 0) : (a * b).tdiv a = b := Int.mul_tdiv_cancel_left b h
theorem wrap_mul_ne (a b : Int) (h0 : ¬ a = 0) (ha : -4611686018427387904 ≤ a) (ha2 : a ≤ 4611686018427387903) (h : a * b < -9223372036854775808 ∨ 9223372036854775807 < a * b) :
    ¬ (wrap64 (a * b)).tdiv a = b := by
  intro he
  have h1 := Int.tmod_add_mul_tdiv (wrap64 (a * b)) a
  rw [he] at h1
  have h2 : (wrap64 (a * b)).tmod a < 4611686018427387905 ∧ -4611686018427387905 < (wrap64 (a * b)).tmod a := by
    have e1 := Int.natAbs_tmod (wrap64 (a * b)) a
    have e2 := Nat.mod_lt (wrap64 (a * b)).natAbs (show 0 < a.natAbs by omega)
    rw [← e1] at e2
    omega
  have h3 : ∃ k : Int, wrap64 (a * b) = a * b + k * 18446744073709551616 ∧ k ≠ 0 := by
    unfold wrap64
    refine ⟨-((a * b + 9223372036854775808) / 18446744073709551616), ?_, ?_⟩ <;> omega
  obtain ⟨k, hk, hk0⟩ := h3
  rw [hk] at h1
  have h4 : k * 18446744073709551616 = (wrap64 (a * b)).tmod a := by rw [hk]; omega
  omega
theorem wrap64_lo (x : Int) : -9223372036854775808 ≤ wrap64 x := by unfold wrap64; omega
theorem wrap64_hi (x : Int) : wrap64 x ≤ 9223372036854775807 := by unfold wrap64; omega
theorem natAbs_tdiv_le (x a : Int) : (x.tdiv a).natAbs ≤ x.natAbs := by
  rw [Int.natAbs_tdiv]; exact Nat.div_le_self _ _
theorem wrap_tdiv_ne {x a b : Int} (hn : ¬ x.tdiv a = b) (h1 : -9223372036854775808 ≤ x) (h2 : x ≤ 9223372036854775807) (b1 : -4611686018427387904 ≤ b) (b2 : b ≤ 4611686018427387903) : wrap64 (x.tdiv a) ≠ b := by
  have h := natAbs_tdiv_le x a
  unfold wrap64
  omega
set_option maxHeartbeats 400000 in
theorem whole_mul (a b : Int) (w : World) (a1 : -4611686018427387904 ≤ a) (a2 : a ≤ 4611686018427387903) (b1 : -4611686018427387904 ≤ b) (b2 : b ≤ 4611686018427387903) :
    Calls Try.prog 29 #[.int .i64 3, .int .i64 a, .int .i64 b] w fun e w' => e = .returned (mkInt (a * b)) ∧ Below w.heap.size w w' := by
  have hcx := @run_store_cx Try.prog
  by_cases h0 : a = 0
  · subst h0
    have h : inR 0 := ⟨by omega, by omega⟩
    rw [Int.zero_mul, mkInt_ok h]
    (go_enter Try.func29, Try.ntmps29; go_wp2_with (go_at_call 10; refine (int_ok _ _ h.1 h.2).mono ?_; rintro e w' ⟨rfl, hb⟩; obtain ⟨hc, hf⟩ := bcell hb; have hz := hb.size; simp at hz hc hf))
    exact bodyPost_ret (v := .tuple #[tm 1 0 0 0, .int .i64 0]) (by simp [results, Try.results29, go_sem, hc]) rfl ⟨rfl, by (repeat (first | (with_reducible exact Below.refl _ _) | (with_reducible refine bl_alloc ?_ _) | (with_reducible refine bl_drewN ?_ _) | (with_reducible refine bl_drew ?_) | (with_reducible refine bl_set ?_ (by dsimp only; omega) _) | (with_reducible refine bl_call ?_ rfl hb)))⟩
  by_cases h : inR (a * b)
  · rw [mkInt_ok h]
    have hq := mul_tdiv a b h0
    have k1 := h.1
    have k2 := h.2
    (go_enter Try.func29, Try.ntmps29; go_wp2_with (go_at_call 10; refine (int_ok _ _ h.1 h.2).mono ?_; rintro e w' ⟨rfl, hb⟩; obtain ⟨hc, hf⟩ := bcell hb; have hz := hb.size; simp at hz hc hf))
    exact bodyPost_ret (v := .tuple #[tm 1 (a * b) 0 0, .int .i64 0]) (by simp [results, Try.results29, go_sem, hc]) rfl ⟨rfl, by (repeat (first | (with_reducible exact Below.refl _ _) | (with_reducible refine bl_alloc ?_ _) | (with_reducible refine bl_drewN ?_ _) | (with_reducible refine bl_drew ?_) | (with_reducible refine bl_set ?_ (by dsimp only; omega) _) | (with_reducible refine bl_call ?_ rfl hb)))⟩
  rw [mkInt_no h]
  have h' := notR h
  clear h
  by_cases hf : a * b < -9223372036854775808 ∨ 9223372036854775807 < a * b
  · have hn := wrap_mul_ne a b h0 a1 a2 hf
    have hn2 : (wrap64 ((wrap64 (a * b)).tdiv a) != b) = true := bne_iff_ne.mpr (wrap_tdiv_ne hn (wrap64_lo _) (wrap64_hi _) b1 b2)
    have h02 : (a != 0) = true := bne_iff_ne.mpr h0
    clear h' hf hn
    go_enter Try.func29, Try.ntmps29
    go_wp2
    exact bodyPost_ret (v := err 12) (by simp [results, Try.results29, go_sem]) rfl ⟨rfl, by (repeat (first | (with_reducible exact Below.refl _ _) | (with_reducible refine bl_alloc ?_ _) | (with_reducible refine bl_drewN ?_ _) | (with_reducible refine bl_drew ?_) | (with_reducible refine bl_set ?_ (by dsimp only; omega) _) | (with_reducible refine bl_call ?_ rfl True)))⟩
  · have hq := mul_tdiv a b h0
    have k1 : -9223372036854775808 ≤ a * b := by omega
    have k2 : a * b ≤ 9223372036854775807 := by omega
    clear hf
    (go_enter Try.func29, Try.ntmps29; go_wp2_with (go_at_call 10; refine (int_no _ _ h').mono ?_; rintro e w' ⟨rfl, hb⟩; obtain ⟨hc, hf⟩ := bcell hb; have hz := hb.size; simp at hz hc hf))
    exact bodyPost_ret (v := err 12) (by simp [results, Try.results29, go_sem, hc]) rfl ⟨rfl, by (repeat (first | (with_reducible exact Below.refl _ _) | (with_reducible refine bl_alloc ?_ _) | (with_reducible refine bl_drewN ?_ _) | (with_reducible refine bl_drew ?_) | (with_reducible refine bl_set ?_ (by dsimp only; omega) _) | (with_reducible refine bl_call ?_ rfl hb)))⟩
set_option maxHeartbeats 400000 in
theorem whole_zero4 (a : Int) (w : World) :
    Calls Try.prog 29 #[.int .i64 4, .int .i64 a, .int .i64 0] w fun e w' => e = .returned (err 11) ∧ Below w.heap.size w w' := by
  have hcx := @run_store_cx Try.prog
  go_enter Try.func29, Try.ntmps29
  go_wp2
  exact bodyPost_ret (v := err 11) (by simp [results, Try.results29, go_sem]) rfl ⟨rfl, by (repeat (first | (with_reducible exact Below.refl _ _) | (with_reducible refine bl_alloc ?_ _) | (with_reducible refine bl_drewN ?_ _) | (with_reducible refine bl_drew ?_) | (with_reducible refine bl_set ?_ (by dsimp only; omega) _) | (with_reducible refine bl_call ?_ rfl True)))⟩
set_option maxHeartbeats 400000 in
theorem whole_zero5 (a : Int) (w : World) :
    Calls Try.prog 29 #[.int .i64 5, .int .i64 a, .int .i64 0] w fun e w' => e = .returned (err 11) ∧ Below w.heap.size w w' := by
  have hcx := @run_store_cx Try.prog
  go_enter Try.func29, Try.ntmps29
  go_wp2
  exact bodyPost_ret (v := err 11) (by simp [results, Try.results29, go_sem]) rfl ⟨rfl, by (repeat (first | (with_reducible exact Below.refl _ _) | (with_reducible refine bl_alloc ?_ _) | (with_reducible refine bl_drewN ?_ _) | (with_reducible refine bl_drew ?_) | (with_reducible refine bl_set ?_ (by dsimp only; omega) _) | (with_reducible refine bl_call ?_ rfl True)))⟩
theorem bd_div (a b : Int) (a1 : -4611686018427387904 ≤ a) (a2 : a ≤ 4611686018427387903) (h0 : ¬ b = 0) : -9223372036854775808 ≤ a.tdiv b ∧ a.tdiv b ≤ 9223372036854775807 := by
  have := natAbs_tdiv_le a b; omega
set_option maxHeartbeats 400000 in
theorem whole_div (a b : Int) (w : World) (a1 : -4611686018427387904 ≤ a) (a2 : a ≤ 4611686018427387903) (b1 : -4611686018427387904 ≤ b) (b2 : b ≤ 4611686018427387903) (h0 : ¬ b = 0) :
    Calls Try.prog 29 #[.int .i64 4, .int .i64 a, .int .i64 b] w fun e w' => e = .returned (mkInt (a.tdiv b)) ∧ Below w.heap.size w w' := by
  have hcx := @run_store_cx Try.prog
  have h00 : (b == 0) = false := beq_eq_false_iff_ne.mpr h0
  obtain ⟨k1, k2⟩ := bd_div a b a1 a2 h0
  by_cases h : inR (a.tdiv b)
  · rw [mkInt_ok h]
    (go_enter Try.func29, Try.ntmps29; go_wp2_with (go_at_call 10; refine (int_ok _ _ h.1 h.2).mono ?_; rintro e w' ⟨rfl, hb⟩; obtain ⟨hc, hf⟩ := bcell hb; have hz := hb.size; simp at hz hc hf))
    exact bodyPost_ret (v := .tuple #[tm 1 (a.tdiv b) 0 0, .int .i64 0]) (by simp [results, Try.results29, go_sem, hc]) rfl ⟨rfl, by (repeat (first | (with_reducible exact Below.refl _ _) | (with_reducible refine bl_alloc ?_ _) | (with_reducible refine bl_drewN ?_ _) | (with_reducible refine bl_drew ?_) | (with_reducible refine bl_set ?_ (by dsimp only; omega) _) | (with_reducible refine bl_call ?_ rfl hb)))⟩
  · rw [mkInt_no h]
    have h' := notR h
    clear h
    (go_enter Try.func29, Try.ntmps29; go_wp2_with (go_at_call 10; refine (int_no _ _ h').mono ?_; rintro e w' ⟨rfl, hb⟩; obtain ⟨hc, hf⟩ := bcell hb; have hz := hb.size; simp at hz hc hf))
    exact bodyPost_ret (v := err 12) (by simp [results, Try.results29, go_sem, hc]) rfl ⟨rfl, by (repeat (first | (with_reducible exact Below.refl _ _) | (with_reducible refine bl_alloc ?_ _) | (with_reducible refine bl_drewN ?_ _) | (with_reducible refine bl_drew ?_) | (with_reducible refine bl_set ?_ (by dsimp only; omega) _) | (with_reducible refine bl_call ?_ rfl hb)))⟩
theorem bd_rem (a b : Int) (a1 : -4611686018427387904 ≤ a) (a2 : a ≤ 4611686018427387903) (h0 : ¬ b = 0) : -9223372036854775808 ≤ a.tmod b ∧ a.tmod b ≤ 9223372036854775807 := by
  have e1 := Int.natAbs_tmod a b; have e2 := Nat.mod_le a.natAbs b.natAbs; rw [← e1] at e2; omega
set_option maxHeartbeats 400000 in
theorem whole_rem (a b : Int) (w : World) (a1 : -4611686018427387904 ≤ a) (a2 : a ≤ 4611686018427387903) (b1 : -4611686018427387904 ≤ b) (b2 : b ≤ 4611686018427387903) (h0 : ¬ b = 0) :
    Calls Try.prog 29 #[.int .i64 5, .int .i64 a, .int .i64 b] w fun e w' => e = .returned (mkInt (a.tmod b)) ∧ Below w.heap.size w w' := by
  have hcx := @run_store_cx Try.prog
  have h00 : (b == 0) = false := beq_eq_false_iff_ne.mpr h0
  obtain ⟨k1, k2⟩ := bd_rem a b a1 a2 h0
  by_cases h : inR (a.tmod b)
  · rw [mkInt_ok h]
    (go_enter Try.func29, Try.ntmps29; go_wp2_with (go_at_call 10; refine (int_ok _ _ h.1 h.2).mono ?_; rintro e w' ⟨rfl, hb⟩; obtain ⟨hc, hf⟩ := bcell hb; have hz := hb.size; simp at hz hc hf))
    exact bodyPost_ret (v := .tuple #[tm 1 (a.tmod b) 0 0, .int .i64 0]) (by simp [results, Try.results29, go_sem, hc]) rfl ⟨rfl, by (repeat (first | (with_reducible exact Below.refl _ _) | (with_reducible refine bl_alloc ?_ _) | (with_reducible refine bl_drewN ?_ _) | (with_reducible refine bl_drew ?_) | (with_reducible refine bl_set ?_ (by dsimp only; omega) _) | (with_reducible refine bl_call ?_ rfl hb)))⟩
  · rw [mkInt_no h]
    have h' := notR h
    clear h
    (go_enter Try.func29, Try.ntmps29; go_wp2_with (go_at_call 10; refine (int_no _ _ h').mono ?_; rintro e w' ⟨rfl, hb⟩; obtain ⟨hc, hf⟩ := bcell hb; have hz := hb.size; simp at hz hc hf))
    exact bodyPost_ret (v := err 12) (by simp [results, Try.results29, go_sem, hc]) rfl ⟨rfl, by (repeat (first | (with_reducible exact Below.refl _ _) | (with_reducible refine bl_alloc ?_ _) | (with_reducible refine bl_drewN ?_ _) | (with_reducible refine bl_drew ?_) | (with_reducible refine bl_set ?_ (by dsimp only; omega) _) | (with_reducible refine bl_call ?_ rfl hb)))⟩
end Go.Proofs.Ytehgneiiajpgpaa
