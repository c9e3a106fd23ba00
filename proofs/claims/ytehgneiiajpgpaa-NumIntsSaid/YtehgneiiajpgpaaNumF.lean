/- NumInts answers true for every two int64. No condition. -/
import Derived.Test.YtehgneiiajpgpaaNumE1
import Derived.Test.YtehgneiiajpgpaaNumE2
import Derived.Test.YtehgneiiajpgpaaNumE3
import Derived.Test.YtehgneiiajpgpaaNumE4
import Derived.Test.YtehgneiiajpgpaaNumE5
import Derived.Test.YtehgneiiajpgpaaNumE6
import Derived.Test.YtehgneiiajpgpaaNumE7
import Derived.Test.YtehgneiiajpgpaaNumE8
import Derived.Test.YtehgneiiajpgpaaNumE9
import Derived.Test.YtehgneiiajpgpaaNumE10
import Derived.Test.YtehgneiiajpgpaaNumE11
import Derived.Test.YtehgneiiajpgpaaNumE12
import Derived.Test.YtehgneiiajpgpaaNumE13
import Derived.Test.YtehgneiiajpgpaaNumE14
import Derived.Test.YtehgneiiajpgpaaNumE15
import Derived.Test.YtehgneiiajpgpaaRows
import Derived.ProofKit
import Derived.OpenShut
namespace Go.Proofs.Ytehgneiiajpgpaa
open Go.RowKit Go.MapKept
set_option linter.unusedVariables false

theorem tdiv_mul_le (a b : Int) (a1 : -4611686018427387904 ≤ a) (a2 : a ≤ 4611686018427387903) (h0 : ¬ b = 0) : inR (a.tdiv b * b) := by
  have h := Int.tmod_add_tdiv_mul a b
  have e1 := Int.natAbs_tmod a b
  have e2 := Nat.mod_le a.natAbs b.natAbs
  rw [← e1] at e2
  have hs : 0 ≤ a → 0 ≤ a.tmod b := fun h => Int.tmod_nonneg _ h
  have hs2 : a ≤ 0 → a.tmod b ≤ 0 := fun h => by have := Int.tmod_nonneg b (show 0 ≤ -a by omega); rw [Int.neg_tmod] at this; omega
  unfold inR
  omega
theorem tmod_lt' (a b : Int) (h0 : ¬ b = 0) (b1 : -4611686018427387904 ≤ b) (b2 : b ≤ 4611686018427387903) : -4611686018427387904 < a.tmod b ∧ a.tmod b ≤ 4611686018427387903 := by
  have e1 := Int.natAbs_tmod a b
  have e2 := Nat.mod_lt a.natAbs (show 0 < b.natAbs by omega)
  rw [← e1] at e2
  omega
theorem tmod_sign (a b : Int) (h0 : ¬ a.tmod b = 0) : (a.tmod b < 0 ∧ a < 0) ∨ (¬ a.tmod b < 0 ∧ ¬ a < 0) := by
  have hs : 0 ≤ a → 0 ≤ a.tmod b := fun h => Int.tmod_nonneg _ h
  have hs2 : a ≤ 0 → a.tmod b ≤ 0 := fun h => by have := Int.tmod_nonneg b (show 0 ≤ -a by omega); rw [Int.neg_tmod] at this; omega
  omega
theorem tdiv_inR (a b : Int) (a1 : -4611686018427387904 ≤ a) (a2 : a ≤ 4611686018427387903) (h0 : ¬ b = 0) (h : ¬ (a = -4611686018427387904 ∧ b = -1)) : inR (a.tdiv b) := by
  have e1 : (a.tdiv b).natAbs = a.natAbs / b.natAbs := Int.natAbs_tdiv a b
  unfold inR
  by_cases hb : b = -1
  · subst hb
    have : a.tdiv (-1) = -a := by rw [Int.tdiv_neg, Int.tdiv_one]
    omega
  by_cases hb : b = 1
  · subst hb
    rw [Int.tdiv_one]; omega
  have e2 : a.natAbs / b.natAbs ≤ a.natAbs / 2 := Nat.div_le_div_left (by omega) (by omega)
  rw [← e1] at e2
  omega
theorem ok_of {n : Int} (h : inR n) {op a b : Int} (H : ∀ w, Calls Try.prog 11 #[.int .i64 op, tm 1 a 0 0, tm 1 b 0 0] w fun e w' => e = .returned (mkInt n) ∧ Below w.heap.size w w') : Hid (dcall op a b (okv n)) := by
  rw [mkInt_ok h] at H; exact H
theorem no_of {n : Int} (h : ¬ inR n) {op a b : Int} (H : ∀ w, Calls Try.prog 11 #[.int .i64 op, tm 1 a 0 0, tm 1 b 0 0] w fun e w' => e = .returned (mkInt n) ∧ Below w.heap.size w w') : Hid (dcall op a b (err 12)) := by
  rw [mkInt_no h] at H; exact H
theorem int_of {n : Int} (h : inR n) : Hid (icall n (okv n)) := by
  have H := int_any n
  rw [mkInt_ok h] at H; exact H
theorem int_of_no {n : Int} (h : ¬ inR n) : Hid (icall n (err 12)) := by
  have H := int_any n
  rw [mkInt_no h] at H; exact H
theorem numInts_walk (a b : Int) (w : World) :
    Calls Try.prog 3 #[.int .i64 a, .int .i64 b] w fun e w' => e = .returned (.bool true) ∧ Below w.heap.size w w' := by
  by_cases ha : inR a
  case neg =>
    by_cases hb : inR b
    · exact ints_no_ok a b w (int_of_no ha) (int_of hb)
    · exact ints_no_no a b w (int_of_no ha) (int_of_no hb)
  by_cases hb : inR b
  case neg => exact ints_ok_no a b w (int_of ha) (int_of_no hb)
  obtain ⟨a1, a2⟩ := ha
  obtain ⟨b1, b2⟩ := hb
  by_cases h0 : b = 0
  · subst h0
    have hs : inR (a + 0) := ⟨by omega, by omega⟩
    have hs' : inR (a + 0 - 0) := ⟨by omega, by omega⟩
    have hm : inR (a * 0) := ⟨by omega, by omega⟩
    have hm' : inR (0 * a) := ⟨by omega, by omega⟩
    have K := ints_z a 0 0 0 0 (a + 0) 0 0 w (int_of ⟨a1, a2⟩) (int_of ⟨b1, b2⟩) (ok_of hs fun w => do_add a 0 w a1 a2 b1 b2)
      (by have := ok_of hs' fun w => do_sub (a + 0) 0 w (by omega) (by omega) b1 b2; simpa only [Int.add_zero, Int.sub_zero] using this)
      (by have := ok_of hm fun w => do_mul a 0 w a1 a2 b1 b2; rwa [Int.mul_zero] at this)
      (by have := ok_of hm' fun w => do_mul 0 a w b1 b2 a1 a2; rwa [Int.zero_mul] at this)
      (fun w => do_div_z a w a1 a2) (fun w => do_rem_z a w a1 a2) rfl
    exact K
  by_cases ho : a = -4611686018427387904 ∧ b = -1
  · obtain ⟨rfl, rfl⟩ := ho
    exact ints_o 0 0 0 0 0 0 w (int_of ⟨a1, a2⟩) (int_of ⟨b1, b2⟩) (no_of (by decide) fun w => do_add _ _ w a1 a2 b1 b2) (no_of (by decide) fun w => do_mul _ _ w a1 a2 b1 b2)
      (no_of (by decide) fun w => do_mul _ _ w b1 b2 a1 a2) (no_of (by decide) fun w => do_div _ _ w a1 a2 b1 b2 h0) (ok_of (n := Int.tmod (-4611686018427387904) (-1)) (by decide) fun w => do_rem _ _ w a1 a2 b1 b2 h0)
  have hq := tdiv_inR a b a1 a2 h0 ho
  have hp := tdiv_mul_le a b a1 a2 h0
  have hr := tmod_lt' a b h0 b1 b2
  have hsum : a.tdiv b * b + a.tmod b = a := by have := Int.tmod_add_tdiv_mul a b; omega
  have HI := int_of (n := a) ⟨a1, a2⟩
  have HJ := int_of (n := b) ⟨b1, b2⟩
  have HD := ok_of hq fun w => do_div a b w a1 a2 b1 b2 h0
  have HR := ok_of (n := a.tmod b) ⟨by omega, by omega⟩ fun w => do_rem a b w a1 a2 b1 b2 h0
  have HP := ok_of hp fun w => do_mul (a.tdiv b) b w hq.1 hq.2 b1 b2
  have HT : Hid (dcall 1 (a.tdiv b * b) (a.tmod b) (okv a)) := by
    have := ok_of (n := a.tdiv b * b + a.tmod b) (by rw [hsum]; exact ⟨a1, a2⟩) fun w => do_add (a.tdiv b * b) (a.tmod b) w hp.1 hp.2 (by omega) (by omega)
    rwa [hsum] at this
  have hz : (b == 0) = false := beq_eq_false_iff_ne.mpr h0
  have hrb : decide (a.tmod b ≤ -4611686018427387904) = false := decide_eq_false (by omega)
  by_cases hs : inR (a + b)
  · have HA := ok_of hs fun w => do_add a b w a1 a2 b1 b2
    have HS : Hid (dcall 2 (a + b) b (okv a)) := by
      have := ok_of (n := a + b - b) (by rw [Int.add_sub_cancel]; exact ⟨a1, a2⟩) fun w => do_sub (a + b) b w hs.1 hs.2 b1 b2
      rwa [Int.add_sub_cancel] at this
    by_cases hm : inR (a * b)
    · have HM := ok_of hm fun w => do_mul a b w a1 a2 b1 b2
      have HN : Hid (dcall 3 b a (okv (a * b))) := by
        have := ok_of (n := b * a) (by rw [Int.mul_comm]; exact hm) fun w => do_mul b a w b1 b2 a1 a2
        rwa [Int.mul_comm] at this
      by_cases hr0' : a.tmod b = 0
      · rw [hr0'] at HR HT
        exact ints_ttz a b _ 0 _ _ _ 0 w HI HJ HA HS HM HN HD HR HP HT hz
      have hr0 : (a.tmod b != 0) = true := bne_iff_ne.mpr hr0'
      rcases tmod_sign a b hr0' with ⟨h1', h2'⟩ | ⟨h1', h2'⟩
      · have h1 : decide (a.tmod b < 0) = true := decide_eq_true h1'
        have h2 : decide (a < 0) = true := decide_eq_true h2'
        exact ints_ttn a b _ _ _ _ _ 0 w HI HJ HA HS HM HN HD HR HP HT hz hrb hr0 h1 h2
      · have h1 : decide (a.tmod b < 0) = false := decide_eq_false h1'
        have h2 : decide (a < 0) = false := decide_eq_false h2'
        exact ints_ttp a b _ _ _ _ _ 0 w HI HJ HA HS HM HN HD HR HP HT hz hrb hr0 h1 h2
    · have HM := no_of hm fun w => do_mul a b w a1 a2 b1 b2
      have HN := no_of (n := b * a) (by rw [Int.mul_comm]; exact hm) fun w => do_mul b a w b1 b2 a1 a2
      by_cases hr0' : a.tmod b = 0
      · rw [hr0'] at HR HT
        exact ints_tfz a b _ 0 0 _ _ 0 w HI HJ HA HS HM HN HD HR HP HT hz
      have hr0 : (a.tmod b != 0) = true := bne_iff_ne.mpr hr0'
      rcases tmod_sign a b hr0' with ⟨h1', h2'⟩ | ⟨h1', h2'⟩
      · have h1 : decide (a.tmod b < 0) = true := decide_eq_true h1'
        have h2 : decide (a < 0) = true := decide_eq_true h2'
        exact ints_tfn a b _ _ 0 _ _ 0 w HI HJ HA HS HM HN HD HR HP HT hz hrb hr0 h1 h2
      · have h1 : decide (a.tmod b < 0) = false := decide_eq_false h1'
        have h2 : decide (a < 0) = false := decide_eq_false h2'
        exact ints_tfp a b _ _ 0 _ _ 0 w HI HJ HA HS HM HN HD HR HP HT hz hrb hr0 h1 h2
  · have HA := no_of hs fun w => do_add a b w a1 a2 b1 b2
    by_cases hm : inR (a * b)
    · have HM := ok_of hm fun w => do_mul a b w a1 a2 b1 b2
      have HN : Hid (dcall 3 b a (okv (a * b))) := by
        have := ok_of (n := b * a) (by rw [Int.mul_comm]; exact hm) fun w => do_mul b a w b1 b2 a1 a2
        rwa [Int.mul_comm] at this
      by_cases hr0' : a.tmod b = 0
      · rw [hr0'] at HR HT
        exact ints_ftz a b _ 0 _ 0 _ 0 w HI HJ HA HM HN HD HR HP HT hz
      have hr0 : (a.tmod b != 0) = true := bne_iff_ne.mpr hr0'
      rcases tmod_sign a b hr0' with ⟨h1', h2'⟩ | ⟨h1', h2'⟩
      · have h1 : decide (a.tmod b < 0) = true := decide_eq_true h1'
        have h2 : decide (a < 0) = true := decide_eq_true h2'
        exact ints_ftn a b _ _ _ 0 _ 0 w HI HJ HA HM HN HD HR HP HT hz hrb hr0 h1 h2
      · have h1 : decide (a.tmod b < 0) = false := decide_eq_false h1'
        have h2 : decide (a < 0) = false := decide_eq_false h2'
        exact ints_ftp a b _ _ _ 0 _ 0 w HI HJ HA HM HN HD HR HP HT hz hrb hr0 h1 h2
    · have HM := no_of hm fun w => do_mul a b w a1 a2 b1 b2
      have HN := no_of (n := b * a) (by rw [Int.mul_comm]; exact hm) fun w => do_mul b a w b1 b2 a1 a2
      by_cases hr0' : a.tmod b = 0
      · rw [hr0'] at HR HT
        exact ints_ffz a b _ 0 0 0 _ 0 w HI HJ HA HM HN HD HR HP HT hz
      have hr0 : (a.tmod b != 0) = true := bne_iff_ne.mpr hr0'
      rcases tmod_sign a b hr0' with ⟨h1', h2'⟩ | ⟨h1', h2'⟩
      · have h1 : decide (a.tmod b < 0) = true := decide_eq_true h1'
        have h2 : decide (a < 0) = true := decide_eq_true h2'
        exact ints_ffn a b _ _ 0 0 _ 0 w HI HJ HA HM HN HD HR HP HT hz hrb hr0 h1 h2
      · have h1 : decide (a.tmod b < 0) = false := decide_eq_false h1'
        have h2 : decide (a < 0) = false := decide_eq_false h2'
        exact ints_ffp a b _ _ 0 0 _ 0 w HI HJ HA HM HN HD HR HP HT hz hrb hr0 h1 h2
namespace numInts
open Go.ChangeShapes Go.WideShapes Go.ChangeAt
theorem own : ownKnob Try.prog.godebug = none := by kernel_rfl
set_option maxRecDepth 100000 in
theorem lifted (os : Os) (started : os.Started) (H : Type) (enc : TypeId × Value → H) :
    ReturnsInHanded {} Try.checked os 3 .any (Rows.numIntsSpec.pre6 enc Try.prog Try.f3 Rows.numIntsRow.domain false) (Rows.numIntsSpec.post enc Try.prog Try.f3 false true false false) := by
  refine returnsInHanded_of_change (C := Try.checked) own started (by kernel_rfl) Try.func3
    (ChangeSpec.witness6 (enc := enc) (C := Try.checked) false ⟨#[], #[.int .i64 0, .int .i64 0], []⟩ 8 (by kernel_rfl) (by kernel_rfl) (by kernel_rfl) (by kernel_rfl)) ?_
  intro W base args ds gs before hval0 hW hcnd _
  have hval : ∀ (j : Nat) t v, Try.f3.params[j]? = some t → args[j]? = some v → Value.okWide Try.prog W .any base t v := hval0
  have hW' := hW
  obtain ⟨p, q, hA0, hV, rfl, hfz, hnd⟩ := hW
  have hA : DataW.TrodAll enc Try.prog W 0 (fun _ => true) true Try.f3.params.toList args.toList ds p := hA0
  rw [Try.params3] at hA hval
  obtain ⟨v0, vs0, d0, ds0, p0, q0, hargs, rfl, rfl, h0, r0⟩ := trodAll_cons hA
  obtain ⟨v1, vs1, d1, ds1, p1, q1, rfl, rfl, rfl, h1, r1⟩ := trodAll_cons r0
  obtain ⟨rfl, rfl, rfl⟩ := trodAll_nil r1
  obtain rfl : args = #[v0, v1] := by cases args; simp_all
  obtain ⟨rfl, rfl⟩ := trodVars_none hV
  obtain ⟨a0, rfl, rfl, rfl, w0⟩ := open_int Try.underlying2 (hval 0 2 v0 rfl rfl) h0
  obtain ⟨a1, rfl, rfl, rfl, w1⟩ := open_int Try.underlying2 (hval 1 2 v1 rfl rfl) h1
  clear hA0 hval0
  simp only [List.append_nil] at hW'
  refine (numInts_walk a0 a1 W).mono fun e W' ⟨he, bel⟩ => ?_
  subst he
  exact ⟨_, rfl, _, _, _, [], _, [], hW', trodAll_mk1 (shut_bool Try.underlying4 _), (trodAll_cons_mk (shut_int Try.underlying2 w0) (trodAll_cons_mk (shut_int Try.underlying2 w1) trodAll_mk0)), rfl, bel.frame _, fun h => by cases h⟩
theorem over : Rows.numIntsRow.holds Try.pinned (OpenSpec.ofChange Rows.numIntsSpec) :=
  OpenClaim.holds_of_wide 3 Try.f3 rfl rfl rfl rfl rfl rfl rfl ⟨rfl, rfl, rfl, rfl, rfl⟩ rfl rfl rfl rfl rfl (by kernel_rfl) Try.func3 (by kernel_rfl)
    (of_decide_eq_true (by kernel_rfl)) (by unfold Func.isWrapper; first | (rw [if_pos (by decide +kernel)]; kernel_rfl) | (rw [if_neg (by decide +kernel)]; exact ⟨rfl, rfl⟩))
    (fun os started H enc _ => lifted os started H enc)
end numInts
theorem numInts_holds : Rows.NumIntsSaid := numInts.over
#print axioms numInts_holds
end Go.Proofs.Ytehgneiiajpgpaa
