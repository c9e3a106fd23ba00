-- Written by a turned copy of the kit's printer (wip/patch_print.py), in this project; not trusted: Lean checks it.
import Derived.Test.YtejidddjkngoiaaDoorPGramx0
import Derived.Test.YtejidddjkngoiaaDoorPGramx2
namespace Go.Proofs.YtejidddjkngoiaaDoor.PGram
open Go.RowKit Go.Proofs.YtejidddjkngoiaaDoorW.PrintWords Go.Proofs.YtejidddjkngoiaaDoorW.PrintLast Go.Proofs.YtejidddjkngoiaaDoorW.PrintMore
attribute [local go_sem] max2_int min2_int max_two min_two max_three min_three max_four min_four   -- for this text's walks alone
set_option linter.unusedVariables false
set_option linter.unusedSimpArgs false

/-! ### rookeryref16_Texts: function 11 -/
def rookeryref16_Texts.l0 : Nat → List ByteArray → List ByteArray → Int → Option (Bool)
 | 0, _, _, _ => none
 | k + 1, x0, x1, x5 => if x5 < (x0.length : Int) then (if 0 ≤ x5 then (if x5 < (x1.length : Int) then (if (rdOf ByteArray.empty x0 x5).toList = (rdOf ByteArray.empty x1 x5).toList then (rookeryref16_Texts.l0 k x0 x1 (wrap64 (x5 + 1))) else (some false)) else (none)) else (none)) else (some true)
def rookeryref16_Texts.f (k : Nat) (l0 : List ByteArray) (l1 : List ByteArray) : Option (Bool) := if (l0.length : Int) = (l1.length : Int) then (rookeryref16_Texts.l0 k l0 l1 0) else (some false)
theorem rookeryref16_Texts.mono_l : ∀ k, (∀ y0 y1 y2, LeO (rookeryref16_Texts.l0 k y0 y1 y2) (rookeryref16_Texts.l0 (k + 1) y0 y1 y2))
 | 0 => fun _ _ _ r h => by simp [rookeryref16_Texts.l0] at h
 | k + 1 => by
  have ih0 := rookeryref16_Texts.mono_l k
  ·
   intro y0 y1 y2
   unfold rookeryref16_Texts.l0
   repeat' first
   | (with_reducible exact ih0 _ _ _)
   | (with_reducible exact LeO.refl _)
   | (with_reducible exact LeO.none _)
   | (with_reducible refine LeO.ite ?_ ?_)
   | (with_reducible refine LeO.bind ?_ (fun _ => ?_))
   | exact ih0 _ _ _
   | exact LeO.none _
   | refine LeO.ite ?_ ?_
   | refine LeO.bind ?_ (fun _ => ?_)
theorem rookeryref16_Texts.mono : ∀ a0 a1 k, LeO (rookeryref16_Texts.f k a0 a1) (rookeryref16_Texts.f (k + 1) a0 a1) := by
 intro a0 a1 k
 have ih0 := rookeryref16_Texts.mono_l k
 unfold rookeryref16_Texts.f
 repeat' first
   | (with_reducible exact ih0 _ _ _)
   | (with_reducible exact LeO.refl _)
   | (with_reducible exact LeO.none _)
   | (with_reducible refine LeO.ite ?_ ?_)
   | (with_reducible refine LeO.bind ?_ (fun _ => ?_))
   | exact ih0 _ _ _
   | exact LeO.none _
   | refine LeO.ite ?_ ?_
   | refine LeO.bind ?_ (fun _ => ?_)
set_option maxHeartbeats 8000000 in
set_option maxRecDepth 100000 in
theorem rookeryref16_Texts.calls (k : Nat) (A0 : Option Addr) (c0 : Nat) (l0 : List ByteArray) (A1 : Option Addr) (c1 : Nat) (l1 : List ByteArray) (r : Bool) (w : World) (hr0 : Kd.C Kd.string w A0 l0.length l0) (hc0 : l0.length ≤ c0) (hr1 : Kd.C Kd.string w A1 l1.length l1) (hc1 : l1.length ≤ c1) (h : rookeryref16_Texts.f k l0 l1 = some r) :
  Calls Tryd.prog 11 #[.slice A0 l0.length c0, .slice A1 l1.length c1] w fun e w' => e = .returned (.bool r) ∧ Drawn0 w w' := by
 have HR0 := qM hr0
 have HC0 := qM hc0
 clear hr0 hc0
 have HR1 := qM hr1
 have HC1 := qM hc1
 clear hr1 hc1
 have H : (if (l0.length : Int) = (l1.length : Int) then (rookeryref16_Texts.l0 k l0 l1 0) else (some false)) = some r := h
 clear h
 by_cases c3 : (l0.length : Int) = (l1.length : Int)
 ·
  rw [if_pos c3] at H
  have c3b0 : ((l0.length : Int) == (l1.length : Int)) = true := beq_iff_eq.mpr c3
  have c3b1 : ((l0.length : Int) != (l1.length : Int)) = false := bne_eq_false_iff_eq.mpr c3
  have c3b2 : (l0.length == l1.length) = true := by first | simpa using c3 | (simp at c3 ⊢; omega)
  clear c3
  have H' := qM H
  clear H
  go_enter Tryd.func11, Tryd.ntmps11
  go_wp2
  repeat (go_quiet (fail); try go_wp2)
  go_loopg [5] k (fun kq v5 w' => ∃ (x5_1 : Int), v5 = .int .i64 x5_1 ∧ Aside0 (rookeryref16_Texts.l0 kq l0 l1 x5_1 = some r) ∧ Aside0 (kq ≤ k) ∧ Drawn0 w w')
  case atStart => exact ⟨(0), qS, H', ⟨Nat.le_refl _⟩, by repeat (first | exact Drawn0.refl _ | apply Drawn0.step)⟩
  case round =>
   clear H'; try clear c1; try clear p2; try clear c3; try clear c3b0; try clear c3b1; try clear c3b2
   obtain ⟨x5_1, rfl, HA, HK1, ⟨m1, rfl⟩⟩ := hrel
   cases gk with
   | zero => exact absurd HA.out (by simp [rookeryref16_Texts.l0])
   | succ k1 =>
    have H := HA.out
    clear HA
    simp only [rookeryref16_Texts.l0] at H
    by_cases c4 : x5_1 < (l0.length : Int)
    ·
     rw [if_pos c4] at H
     have c4b0 : decide (x5_1 < (l0.length : Int)) = true := decide_eq_true c4
     clear c4
     by_cases c5 : 0 ≤ x5_1
     ·
      rw [if_pos c5] at H
      have c5b0 : decide (0 ≤ x5_1) = true := decide_eq_true c5
      clear c5
      by_cases c6 : x5_1 < (l1.length : Int)
      ·
       rw [if_pos c6] at H
       have c6b0 : decide (x5_1 < (l1.length : Int)) = true := decide_eq_true c6
       clear c6
       by_cases c7 : (rdOf ByteArray.empty l0 x5_1).toList = (rdOf ByteArray.empty l1 x5_1).toList
       ·
        rw [if_pos c7] at H
        have c7b0 : ((rdOf ByteArray.empty l0 x5_1).toList == (rdOf ByteArray.empty l1 x5_1).toList) = true := beq_iff_eq.mpr c7
        have c7b1 : ((rdOf ByteArray.empty l0 x5_1).toList != (rdOf ByteArray.empty l1 x5_1).toList) = false := bne_eq_false_iff_eq.mpr c7
        clear c7
        have H' := qM H
        clear H
        have p156 : 0 ≤ (x5_1 : Int) := qD
        have q156 : x5_1 < (l0.length : Int) := qD
        obtain ⟨ad156, e156, hx156_0⟩ := Kd.at_string HR0.out x5_1 p156 q156
        cases e156
        replace p156 := eq_true p156
        replace q156 := eq_true q156
        have p157 : 0 ≤ (x5_1 : Int) := qD
        have q157 : x5_1 < (l1.length : Int) := qD
        obtain ⟨ad157, e157, hx157_0⟩ := Kd.at_string HR1.out x5_1 p157 q157
        cases e157
        replace p157 := eq_true p157
        replace q157 := eq_true q157
        go_wp2
        repeat (go_quiet (fail); try go_wp2)
        go_roundg k1
        case measure => have := HK1.out; omega
        case rel => exact ⟨(wrap64 (x5_1 + 1)), qS, H', ⟨by have := HK1.out; omega⟩, by repeat (first | exact Drawn0.refl _ | apply Drawn0.step)⟩
       ·
        rw [if_neg c7] at H
        have c7b0 : ((rdOf ByteArray.empty l0 x5_1).toList == (rdOf ByteArray.empty l1 x5_1).toList) = false := beq_eq_false_iff_ne.mpr c7
        have c7b1 : ((rdOf ByteArray.empty l0 x5_1).toList != (rdOf ByteArray.empty l1 x5_1).toList) = true := bne_iff_ne.mpr c7
        obtain rfl := qI H
        have p156 : 0 ≤ (x5_1 : Int) := qD
        have q156 : x5_1 < (l0.length : Int) := qD
        obtain ⟨ad156, e156, hx156_0⟩ := Kd.at_string HR0.out x5_1 p156 q156
        cases e156
        replace p156 := eq_true p156
        replace q156 := eq_true q156
        have p157 : 0 ≤ (x5_1 : Int) := qD
        have q157 : x5_1 < (l1.length : Int) := qD
        obtain ⟨ad157, e157, hx157_0⟩ := Kd.at_string HR1.out x5_1 p157 q157
        cases e157
        replace p157 := eq_true p157
        replace q157 := eq_true q157
        go_wp2
        repeat (go_quiet (fail); try go_wp2)
        go_ret
        exact ⟨by first | rfl | (simp; done) | (simp [*]; done), by repeat (first | exact Drawn0.refl _ | apply Drawn0.step)⟩
      ·
       rw [if_neg c6] at H
       exact absurd H (by simp)
     ·
      rw [if_neg c5] at H
      exact absurd H (by simp)
    ·
     rw [if_neg c4] at H
     have c4b0 : decide (x5_1 < (l0.length : Int)) = false := decide_eq_false c4
     clear c4
     obtain rfl := qI H
     go_wp2
     repeat (go_quiet (fail); try go_wp2)
     go_ret
     exact ⟨by first | rfl | (simp; done) | (simp [*]; done), by repeat (first | exact Drawn0.refl _ | apply Drawn0.step)⟩
 ·
  rw [if_neg c3] at H
  have c3b0 : ((l0.length : Int) == (l1.length : Int)) = false := beq_eq_false_iff_ne.mpr c3
  have c3b1 : ((l0.length : Int) != (l1.length : Int)) = true := bne_iff_ne.mpr c3
  have c3b2 : (l0.length == l1.length) = false := by first | simpa using c3 | (simp at c3 ⊢; omega)
  obtain rfl := qI H
  go_enter Tryd.func11, Tryd.ntmps11
  go_wp2
  repeat (go_quiet (fail); try go_wp2)
  go_ret
  exact ⟨by first | rfl | (simp; done) | (simp [*]; done), by repeat (first | exact Drawn0.refl _ | apply Drawn0.step)⟩

/-! ### gram_Names: function 12 -/
mutual
def t28 : S28 → GTree
 | ⟨kd, s, n, b, l⟩ => .node kd s n b (t28L l)
def t28L : List S28 → List GTree
 | [] => []
 | t :: r => t28 t :: t28L r
end
mutual
theorem s28_t28 : ∀ x : S28, s28 (t28 x) = x
 | ⟨kd, s, n, b, l⟩ => by
  show (⟨kd, s, n, b, s28L (t28L l)⟩ : S28) = ⟨kd, s, n, b, l⟩
  rw [s28L_t28L l]
theorem s28L_t28L : ∀ l : List S28, s28L (t28L l) = l
 | [] => rfl
 | t :: r => by
  show s28 (t28 t) :: s28L (t28L r) = t :: r
  rw [s28_t28 t, s28L_t28L r]
end
def gram_Names.f (a0_0 : Int) (a0_1 : ByteArray) (a0_2 : Int) (l0_3 : List Int) (l0_4 : List S28) : Option (List ByteArray) := some (nmT (t28 ⟨a0_0, a0_1, a0_2, l0_3, l0_4⟩) (0, [])).2
theorem strs_R {w : World} {base : Nat} {v : Value} {l : List ByteArray} (h : w.ownsRow base 9 1 v l.length (l.map Value.string)) : Kd.string.R 9 w base (fun _ => True) v l := by
 refine ⟨fun _ _ => trivial, l.map Value.string, h, ?_, fun j p hp => ?_⟩
 ·
  show (l.map Value.string).length = l.length * 1
  simp
 ·
  show ((l.map Value.string).drop (j * 1)).take 1 = [Value.string p]
  rw [Nat.mul_one, List.take_one, List.head?_drop, List.getElem?_map, hp]
  rfl
theorem gram_Names.calls (a0_0 : Int) (a0_1 : ByteArray) (a0_2 : Int) (A0_3 : Option Addr) (c0_3 : Nat) (l0_3 : List Int) (A0_4 : Option Addr) (c0_4 : Nat) (l0_4 : List S28) (r : List ByteArray) (w : World) (hr0_3 : Kd.C (Kd.int .u8) w A0_3 l0_3.length l0_3) (hc0_3 : l0_3.length ≤ c0_3) (hr0_4 : Kd.C k28 w A0_4 l0_4.length l0_4) (hc0_4 : l0_4.length ≤ c0_4) (h : gram_Names.f a0_0 a0_1 a0_2 l0_3 l0_4 = some r) :
  Calls Tryd.prog 12 #[.agg #[.int .i64 a0_0, .string a0_1, .int .i64 a0_2, .slice A0_3 l0_3.length c0_3, .slice A0_4 l0_4.length c0_4]] w fun e w' => ∃ v0_ : Value, e = .returned (v0_) ∧ Kd.R Kd.string 9 w' w.heap.size (fun _ => True) v0_ r ∧ Below w.heap.size w w' := by
 injection h with h
 subst h
 have hk := k28_mk w ⟨a0_0, a0_1, a0_2, l0_3, l0_4⟩ hc0_3 hr0_3 hc0_4 hr0_4
 rw [← s28_t28 ⟨a0_0, a0_1, a0_2, l0_3, l0_4⟩] at hk
 obtain ⟨u, hu, htv⟩ := tree_rd _ _ (Nat.le_refl _) _ hk
 obtain ⟨ua, ub, uc, ud, ue⟩ := u
 simp only [List.cons.injEq, and_true] at hu
 obtain ⟨e0, e1, e2, e3, e4⟩ := hu
 rw [s28_t28] at e0 e1 e2 e3 e4
 simp only at e0 e1 e2 e3 e4
 subst e0 e1 e2 e3 e4
 refine (names_c w _ _ htv).mono ?_
 rintro e w' ⟨v, rfl, h1, h2⟩
 exact ⟨v, rfl, strs_R h1, h2⟩
/-! ### rookeryref16_All: function 16 -/
mutual
def rookeryref16_All.l0 : Nat → Int → List (S28) → Int → Int → ByteArray → Int → List Int → List (S28) → Option ((List (S28)))
 | 0, _, _, _, _, _, _, _, _ => none
 | k + 1, x1, x5, x6, x159000, x159001, x159002, x159003, x159004 => if x6 < (x159004.length : Int) then (if (x5.length : Int) < x1 then (if 0 ≤ x6 then ((rookeryref16_All.f k ((rd_T28 x159004 x6).f0) ((rd_T28 x159004 x6).f1) ((rd_T28 x159004 x6).f2) ((rd_T28 x159004 x6).f3) ((rd_T28 x159004 x6).f4) (wrap64 (x1 - (x5.length : Int)))).bind fun t163 => (if x5.length + t163.length < 1759218604441 then (rookeryref16_All.l0 k x1 (x5 ++ t163) (wrap64 (x6 + 1)) x159000 x159001 x159002 x159003 x159004) else (none))) else (none)) else (some x5)) else (some x5)
def rookeryref16_All.f : Nat → Int → ByteArray → Int → List Int → List (S28) → Int → Option ((List (S28)))
 | 0, _, _, _, _, _, _ => none
 | k + 1, a0_0, a0_1, a0_2, l0_3, l0_4, a1 => if a1 ≤ 0 then (some ([] : List (S28))) else (rookeryref16_All.l0 k a1 (([(⟨a0_0, a0_1, a0_2, l0_3, l0_4⟩ : S28)] : List (S28))) 0 a0_0 a0_1 a0_2 l0_3 l0_4)
end
theorem rookeryref16_All.mono_l : ∀ k, (∀ y0 y1 y2 y3 y4 y5, LeO (rookeryref16_All.f k y0 y1 y2 y3 y4 y5) (rookeryref16_All.f (k + 1) y0 y1 y2 y3 y4 y5)) ∧ (∀ y0 y1 y2 y3 y4 y5 y6 y7, LeO (rookeryref16_All.l0 k y0 y1 y2 y3 y4 y5 y6 y7) (rookeryref16_All.l0 (k + 1) y0 y1 y2 y3 y4 y5 y6 y7))
 | 0 => ⟨fun _ _ _ _ _ _ r h => by simp [rookeryref16_All.f] at h, fun _ _ _ _ _ _ _ _ r h => by simp [rookeryref16_All.l0] at h⟩
 | k + 1 => by
  obtain ⟨ih0, ih1⟩ := rookeryref16_All.mono_l k
  refine ⟨?_, ?_⟩
  ·
   intro y0 y1 y2 y3 y4 y5
   unfold rookeryref16_All.f
   repeat' first
   | (with_reducible exact ih0 _ _ _ _ _ _)
   | (with_reducible exact ih1 _ _ _ _ _ _ _ _)
   | (with_reducible exact LeO.refl _)
   | (with_reducible exact LeO.none _)
   | (with_reducible refine LeO.ite ?_ ?_)
   | (with_reducible refine LeO.bind ?_ (fun _ => ?_))
   | exact ih0 _ _ _ _ _ _
   | exact ih1 _ _ _ _ _ _ _ _
   | exact LeO.none _
   | refine LeO.ite ?_ ?_
   | refine LeO.bind ?_ (fun _ => ?_)
  ·
   intro y0 y1 y2 y3 y4 y5 y6 y7
   unfold rookeryref16_All.l0
   repeat' first
   | (with_reducible exact ih0 _ _ _ _ _ _)
   | (with_reducible exact ih1 _ _ _ _ _ _ _ _)
   | (with_reducible exact LeO.refl _)
   | (with_reducible exact LeO.none _)
   | (with_reducible refine LeO.ite ?_ ?_)
   | (with_reducible refine LeO.bind ?_ (fun _ => ?_))
   | exact ih0 _ _ _ _ _ _
   | exact ih1 _ _ _ _ _ _ _ _
   | exact LeO.none _
   | refine LeO.ite ?_ ?_
   | refine LeO.bind ?_ (fun _ => ?_)
theorem rookeryref16_All.mono : ∀ a0 a1 a2 a3 a4 a5 k, LeO (rookeryref16_All.f k a0 a1 a2 a3 a4 a5) (rookeryref16_All.f (k + 1) a0 a1 a2 a3 a4 a5) := by
 intro a0 a1 a2 a3 a4 a5 k
 obtain ⟨ih0, ih1⟩ := rookeryref16_All.mono_l k
 exact ih0 a0 a1 a2 a3 a4 a5
set_option maxHeartbeats 8000000 in
set_option maxRecDepth 100000 in
theorem rookeryref16_All.calls (k : Nat) : ∀ (a0_0 : Int) (a0_1 : ByteArray) (a0_2 : Int) (P0_3_ : Nat → Prop) (A0_3 : Option Addr) (c0_3 : Nat) (l0_3 : List Int) (P0_4_ : Nat → Prop) (A0_4 : Option Addr) (c0_4 : Nat) (l0_4 : List (S28)) (a1 : Int) (r : List (S28)) (w : World) (hs0_3 : Kd.V (Kd.int .u8) 5 w w.heap.size (fun k_ => P0_3_ k_) (.slice A0_3 l0_3.length c0_3) l0_3) (hs0_4 : Kd.V k28 28 w w.heap.size (fun k_ => P0_4_ k_) (.slice A0_4 l0_4.length c0_4) l0_4) (h : rookeryref16_All.f k a0_0 a0_1 a0_2 l0_3 l0_4 a1 = some r),
  Calls Tryd.prog 16 #[.agg #[.int .i64 a0_0, .string a0_1, .int .i64 a0_2, .slice A0_3 l0_3.length c0_3, .slice A0_4 l0_4.length c0_4], .int .i64 a1] w fun e w' => ∃ v0_ : Value, e = .returned (v0_) ∧ Kd.N k28 28 w' w.heap.size (fun k_ => ((P0_3_ k_ ∨ P0_4_ k_) ∨ w.heap.size ≤ k_)) v0_ r ∧ Below w.heap.size w w' := by
 induction k using Nat.strongRecOn with
 | _ k ih =>
 intro a0_0 a0_1 a0_2 P0_3_ A0_3 c0_3 l0_3 P0_4_ A0_4 c0_4 l0_4 a1 r w hs0_3 hs0_4 h
 cases k with
 | zero => exact absurd h (by simp [rookeryref16_All.f])
 | succ k =>
 simp only [rookeryref16_All.f] at h
 have hu28 := Tryd.underlying28
 have HO0_3 := qM (show Kd.V (Kd.int .u8) 5 w w.heap.size (fun k_ => ((P0_3_ k_ ∨ P0_4_ k_) ∨ w.heap.size ≤ k_)) (.slice A0_3 l0_3.length c0_3) l0_3 from Kd.V_mono hs0_3 (fun k_ hk => .inl (.inl hk)))
 have HO0_4 := qM (show Kd.V k28 28 w w.heap.size (fun k_ => ((P0_3_ k_ ∨ P0_4_ k_) ∨ w.heap.size ≤ k_)) (.slice A0_4 l0_4.length c0_4) l0_4 from Kd.V_mono hs0_4 (fun k_ hk => .inl (.inr hk)))
 have HB := qM (Below.refl w.heap.size w)
 have H : (if a1 ≤ 0 then (some ([] : List (S28))) else (rookeryref16_All.l0 k a1 (([(⟨a0_0, a0_1, a0_2, l0_3, l0_4⟩ : S28)] : List (S28))) 0 a0_0 a0_1 a0_2 l0_3 l0_4)) = some r := h
 clear h
 by_cases c3 : a1 ≤ 0
 ·
  rw [if_pos c3] at H
  have c3b0 : decide (a1 ≤ 0) = true := decide_eq_true c3
  clear c3
  obtain rfl := qI H
  go_enter Tryd.func16, Tryd.ntmps16
  go_wp2_with (first | ((with_reducible refine gate_dst (N := 2) rfl ?_); (try (refine gate_guard (by rfl) ?_; dsimp only)); refine box_event ?hg (N := 2) ?hd (cs := #[.int .i64 a0_0, .string a0_1, .int .i64 a0_2, .slice A0_3 l0_3.length c0_3, .slice A0_4 l0_4.length c0_4]) (t := 28) ?hr ?_; (case hd => rfl); (case hg => rfl); (case hr => first | (go_simp; done) | (go_simp; rfl)); intro gb158 hg w4 hbox hb; have n0_ := qM (Kd.V_below (Kd.V_elderB (qV HO0_3.out) gb158 (Nat.le_of_eq hg.symm)) hb); have n1_ := qM (Kd.V_below (Kd.V_elderB (qV HO0_4.out) gb158 (Nat.le_of_eq hg.symm)) hb); have n2_ := qM (below_step (qB HB.out) hb); have n3_ := qM (hbox); have n4_ := qM ((by rw [hg]; exact (below_size (qB HB.out)) : w.heap.size ≤ gb158)); have n5_ := qM ((by rw [hg]; exact (below_size (qB HB.out)) : w.heap.size ≤ gb158)); clear HO0_3; clear HO0_4; clear HB; have HO0_3 := n0_; have HO0_4 := n1_; have HB := n2_; have BK158 := n3_; have GW158 := n4_; have GE158 := n5_; clear n0_ n1_ n2_ n3_ n4_ n5_; clear hb hbox hg))
  go_ret
  exact ⟨_, by first | rfl | (simp [errW_none, errW_some] <;> rfl) | (simp [*, errW_none, errW_some] <;> rfl), by first | exact Kd.R_nil _ _ _ _ _ | exact Kd.N_nil _ _ _ _ _ | exact Kd.V_nil _ _ _ _ _ | exact Kd.Q_nil _ _ _ _ _ | exact Kd.S_nil _ _ _ _ _, by repeat (first | (with_reducible first | exact HB.out | apply below_alloc | apply pw_below_drewN | apply below_drew1 | refine below_set ?_ GE158.out) | exact HB.out)⟩
 ·
  rw [if_neg c3] at H
  have c3b0 : decide (a1 ≤ 0) = false := decide_eq_false c3
  clear c3
  obtain ⟨y159, hy159⟩ : ∃ y_ : List (S28), y_ = (([(⟨a0_0, a0_1, a0_2, l0_3, l0_4⟩ : S28)] : List (S28))) := ⟨_, rfl⟩
  replace H : (rookeryref16_All.l0 k a1 y159 0 a0_0 a0_1 a0_2 l0_3 l0_4) = some r := by first | (rw [hy159]; with_reducible exact H) | (have H2_ := (Option.bind_some _ _).symm.trans H; rw [hy159]; with_reducible exact H2_) | (have H2_ := (Option.bind_some _ _).symm.trans H; with_reducible exact H2_) | with_reducible exact H | (rw [hy159]; exact H) | exact H
  have Ny159 := qM hy159
  clear hy159
  have H' := qM H
  clear H
  go_enter Tryd.func16, Tryd.ntmps16
  go_wp2_with (first | ((with_reducible refine gate_dst (N := 2) rfl ?_); (try (refine gate_guard (by rfl) ?_; dsimp only)); refine box_event ?hg (N := 2) ?hd (cs := #[.int .i64 a0_0, .string a0_1, .int .i64 a0_2, .slice A0_3 l0_3.length c0_3, .slice A0_4 l0_4.length c0_4]) (t := 28) ?hr ?_; (case hd => rfl); (case hg => rfl); (case hr => first | (go_simp; done) | (go_simp; rfl)); intro gb158 hg w5 hbox hb; have n0_ := qM (Kd.V_below (Kd.V_elderB (qV HO0_3.out) gb158 (Nat.le_of_eq hg.symm)) hb); have n1_ := qM (Kd.V_below (Kd.V_elderB (qV HO0_4.out) gb158 (Nat.le_of_eq hg.symm)) hb); have n2_ := qM (below_step (qB HB.out) hb); have n3_ := qM (hbox); have n4_ := qM ((by rw [hg]; exact (below_size (qB HB.out)) : w.heap.size ≤ gb158)); have n5_ := qM ((by rw [hg]; exact (below_size (qB HB.out)) : w.heap.size ≤ gb158)); clear HO0_3; clear HO0_4; clear HB; have HO0_3 := n0_; have HO0_4 := n1_; have HB := n2_; have BK158 := n3_; have GW158 := n4_; have GE158 := n5_; clear n0_ n1_ n2_ n3_ n4_ n5_; clear hb hbox hg; have hcz6_0 : w5.cell? ⟨gb158, 0, none⟩ = some (.int .i64 a0_0) := (blk_cell BK158.out 0).trans rfl; have hcz6_1 : w5.cell? ⟨gb158, 1, none⟩ = some (.string a0_1) := (blk_cell BK158.out 1).trans rfl; have hcz6_2 : w5.cell? ⟨gb158, 2, none⟩ = some (.int .i64 a0_2) := (blk_cell BK158.out 2).trans rfl; have hcz6_3 : w5.cell? ⟨gb158, 3, none⟩ = some (.slice A0_3 l0_3.length c0_3) := (blk_cell BK158.out 3).trans rfl; have hcz6_4 : w5.cell? ⟨gb158, 4, none⟩ = some (.slice A0_4 l0_4.length c0_4) := (blk_cell BK158.out 4).trans rfl; have hfz6_0 := blk_frozen BK158.out 0; have hfz6_1 := blk_frozen BK158.out 1; have hfz6_2 := blk_frozen BK158.out 2; have hfz6_3 := blk_frozen BK158.out 3; have hfz6_4 := blk_frozen BK158.out 4) | ((with_reducible refine gate_dst (N := 10) rfl ?_); (try (refine gate_guard (by rfl) ?_; dsimp only)); refine Kd.N_lit k28 _ 28 ?hg (N' := 10) ?hd (xs := ([(⟨a0_0, a0_1, a0_2, l0_3, l0_4⟩ : S28)] : List (S28))) (inner := [.int .i64 a0_0, .string a0_1, .int .i64 a0_2, .slice A0_3 l0_3.length c0_3, .slice A0_4 l0_4.length c0_4]) (ok := (fun k_ => ((P0_3_ k_ ∨ P0_4_ k_) ∨ w.heap.size ≤ k_) ∧ k_ ≠ gb158)) (okp := (fun k_ => ((P0_3_ k_ ∨ P0_4_ k_) ∨ w.heap.size ≤ k_) ∧ k_ ≠ gb158)) ?hr ?hp (fun _ hk => hk) ((show ∀ k_, w5.heap.size ≤ k_ → (fun k_ => ((P0_3_ k_ ∨ P0_4_ k_) ∨ w.heap.size ≤ k_) ∧ k_ ≠ gb158) k_ from fun k_ hk => ⟨(.inr (Nat.le_trans (below_size (by repeat (first | (with_reducible first | exact HB.out | apply below_alloc | apply pw_below_drewN | apply below_drew1 | refine below_set ?_ GE158.out) | exact HB.out))) hk)), Kd.freshB (g := gb158) (o := .cells #[.int .i64 a0_0, .string a0_1, .int .i64 a0_2, .slice A0_3 l0_3.length c0_3, .slice A0_4 l0_4.length c0_4] 28 (0, 0)) (qK BK158.out) k_ hk⟩) _ (Nat.le_refl _)) (Below.refl _ _) (Nat.le_refl _) (by simp) ?_; (case hd => rfl); (case hg => rfl); (case hr => first | (go_simp; done) | (go_simp; rfl)); (case hp => exact (Reps.c5 (show Kd.FK k28 _ _ (⟨a0_0, a0_1, a0_2, l0_3, l0_4⟩ : S28) [.int .i64 a0_0, .string a0_1, .int .i64 a0_2, .slice A0_3 l0_3.length c0_3, .slice A0_4 l0_4.length c0_4] from (k28_mkF _ _ (⟨a0_0, a0_1, a0_2, l0_3, l0_4⟩ : S28) (Kd.V_reads' (Kd.V_mono (ok' := (fun k_ => ((P0_3_ k_ ∨ P0_4_ k_) ∨ w.heap.size ≤ k_) ∧ k_ ≠ gb158)) (HO0_3.out) (fun k_ hk => ⟨hk.1, hk.2⟩))).2.1 (Kd.V_F (Kd.V_mono (ok' := (fun k_ => ((P0_3_ k_ ∨ P0_4_ k_) ∨ w.heap.size ≤ k_) ∧ k_ ≠ gb158)) (HO0_3.out) (fun k_ hk => ⟨hk.1, hk.2⟩))) (Kd.V_reads' (Kd.V_mono (ok' := (fun k_ => ((P0_3_ k_ ∨ P0_4_ k_) ∨ w.heap.size ≤ k_) ∧ k_ ≠ gb158)) (HO0_4.out) (fun k_ hk => ⟨hk.1, hk.2⟩))).2.1 (Kd.V_F (Kd.V_mono (ok' := (fun k_ => ((P0_3_ k_ ∨ P0_4_ k_) ∨ w.heap.size ≤ k_) ∧ k_ ≠ gb158)) (HO0_4.out) (fun k_ hk => ⟨hk.1, hk.2⟩))))) (Reps.none _ _))); intro v160 w7 ho8 hb hg_ hnew_; clear hg_ hnew_; (first | rw [← Ny159.out] at ho8 | (simp only [Int.reduceToNat] at ho8; rw [← Ny159.out] at ho8)); have n0_ := qM (Kd.V_elder' (qV HO0_3.out) (Kd.N_base ho8) hb); have n1_ := qM (Kd.V_elder' (qV HO0_4.out) (Kd.N_base ho8) hb); have n2_ := qM (Kd.N_lower ho8 (below_size (by repeat (first | (with_reducible first | exact HB.out | apply below_alloc | apply pw_below_drewN | apply below_drew1 | refine below_set ?_ GE158.out) | exact HB.out)))); have n3_ := qM (blk_below (g := gb158) (o := .cells #[.int .i64 a0_0, .string a0_1, .int .i64 a0_2, .slice A0_3 l0_3.length c0_3, .slice A0_4 l0_4.length c0_4] 28 (0, 0)) (qK BK158.out) hb); have n4_ := qM (below_step (by repeat (first | (with_reducible first | exact HB.out | apply below_alloc | apply pw_below_drewN | apply below_drew1 | refine below_set ?_ GE158.out) | exact HB.out)) hb); clear HO0_3; clear HO0_4; clear BK158; clear HB; have HO0_3 := n0_; have HO0_4 := n1_; have HO161 := n2_; have BK158 := n3_; have HB := n4_; clear n0_ n1_ n2_ n3_ n4_; clear hb ho8))
  go_loopg [5, 6] k (fun kq v5 v6 w' => ∃ (x5_1 : List (S28)) (x6_1 : Int), v6 = .int .i64 x6_1 ∧ Aside0 (rookeryref16_All.l0 kq a1 x5_1 x6_1 a0_0 a0_1 a0_2 l0_3 l0_4 = some r) ∧ Aside0 (kq ≤ k) ∧ Aside0 (Kd.N k28 28 w' w.heap.size (fun k_ => ((P0_3_ k_ ∨ P0_4_ k_) ∨ w.heap.size ≤ k_) ∧ k_ ≠ gb158) v5 x5_1) ∧ Aside0 (Kd.V (Kd.int .u8) 5 w' w.heap.size (fun k_ => ((P0_3_ k_ ∨ P0_4_ k_) ∨ w.heap.size ≤ k_) ∧ some k_ ≠ (v5 : Value).ownBlock ∧ k_ ≠ gb158) (.slice A0_3 l0_3.length c0_3) l0_3) ∧ Aside0 (Kd.V k28 28 w' w.heap.size (fun k_ => ((P0_3_ k_ ∨ P0_4_ k_) ∨ w.heap.size ≤ k_) ∧ some k_ ≠ (v5 : Value).ownBlock ∧ k_ ≠ gb158) (.slice A0_4 l0_4.length c0_4) l0_4) ∧ Aside0 (w'.heap[gb158]? = some (.cells #[.int .i64 a0_0, .string a0_1, .int .i64 a0_2, (.slice A0_3 l0_3.length c0_3), (.slice A0_4 l0_4.length c0_4)] 28 (0, 0))) ∧ Aside0 (Below w.heap.size w w'))
  case atStart => exact ⟨(y159), (0), qS, H', ⟨Nat.le_refl _⟩, ⟨qN HO161.out⟩, ⟨by (with_reducible repeat (first | apply Kd.V_alloc | apply Kd.V_drewN | apply Kd.V_drew)); exact Kd.V_mono HO0_3.out (fun _ hk => ⟨hk.1.1, ⟨hk.2, hk.1.2⟩⟩)⟩, ⟨by (with_reducible repeat (first | apply Kd.V_alloc | apply Kd.V_drewN | apply Kd.V_drew)); exact Kd.V_mono HO0_4.out (fun _ hk => ⟨hk.1.1, ⟨hk.2, hk.1.2⟩⟩)⟩, ⟨qK BK158.out⟩, ⟨by repeat (first | (with_reducible first | exact HB.out | apply below_alloc | apply pw_below_drewN | apply below_drew1 | refine below_set ?_ GE158.out) | exact HB.out)⟩⟩
  case round =>
   clear H'; try clear c1; try clear p2; try clear c3; try clear c3b0; try clear c5; try clear hcz6_0; try clear hcz6_1; try clear hcz6_2; try clear hcz6_3; try clear hcz6_4; try clear hfz6_0; try clear hfz6_1; try clear hfz6_2; try clear hfz6_3; try clear hfz6_4
   obtain ⟨x5_1, x6_1, rfl, HA, HK1, HO_5, HO_159003, HO_159004, BK158, HB⟩ := hrel
   cases gk with
   | zero => exact absurd HA.out (by simp [rookeryref16_All.l0])
   | succ k1 =>
    have H := HA.out
    clear HA
    simp only [rookeryref16_All.l0] at H
    by_cases c9 : x6_1 < (l0_4.length : Int)
    ·
     rw [if_pos c9] at H
     have c9b0 : decide (x6_1 < (l0_4.length : Int)) = true := decide_eq_true c9
     clear c9
     by_cases c10 : (x5_1.length : Int) < a1
     ·
      rw [if_pos c10] at H
      have c10b0 : decide ((x5_1.length : Int) < a1) = true := decide_eq_true c10
      clear c10
      by_cases c11 : 0 ≤ x6_1
      ·
       rw [if_pos c11] at H
       have c11b0 : decide (0 ≤ x6_1) = true := decide_eq_true c11
       clear c11
       replace H := Option.bind_eq_some_iff.mp H
       obtain ⟨t163, A120, H⟩ := H
       replace H : (if x5_1.length + t163.length < 1759218604441 then (rookeryref16_All.l0 k1 a1 (x5_1 ++ t163) (wrap64 (x6_1 + 1)) a0_0 a0_1 a0_2 l0_3 l0_4) else (none)) = some r := H
       have A12 := qM A120
       clear A120
       by_cases c13 : x5_1.length + t163.length < 1759218604441
       ·
        rw [if_pos c13] at H
        have LMc13 := qM c13
        clear c13
        obtain ⟨y166, hy166⟩ : ∃ y_ : List (S28), y_ = (x5_1 ++ t163) := ⟨_, rfl⟩
        replace H : (rookeryref16_All.l0 k1 a1 y166 (wrap64 (x6_1 + 1)) a0_0 a0_1 a0_2 l0_3 l0_4) = some r := by first | (rw [hy166]; with_reducible exact H) | (have H2_ := (Option.bind_some _ _).symm.trans H; rw [hy166]; with_reducible exact H2_) | (have H2_ := (Option.bind_some _ _).symm.trans H; with_reducible exact H2_) | with_reducible exact H | (rw [hy166]; exact H) | exact H
        have Ny166 := qM hy166
        clear hy166
        have H' := qM H
        clear H
        have hcz14_0 : wr.cell? ⟨gb158, 0, none⟩ = some (.int .i64 a0_0) := (blk_cell BK158.out 0).trans rfl
        have hcz14_1 : wr.cell? ⟨gb158, 1, none⟩ = some (.string a0_1) := (blk_cell BK158.out 1).trans rfl
        have hcz14_2 : wr.cell? ⟨gb158, 2, none⟩ = some (.int .i64 a0_2) := (blk_cell BK158.out 2).trans rfl
        have hcz14_3 : wr.cell? ⟨gb158, 3, none⟩ = some (.slice A0_3 l0_3.length c0_3) := (blk_cell BK158.out 3).trans rfl
        have hcz14_4 : wr.cell? ⟨gb158, 4, none⟩ = some (.slice A0_4 l0_4.length c0_4) := (blk_cell BK158.out 4).trans rfl
        have hfz14_0 := blk_frozen BK158.out 0
        have hfz14_1 := blk_frozen BK158.out 1
        have hfz14_2 := blk_frozen BK158.out 2
        have hfz14_3 := blk_frozen BK158.out 3
        have hfz14_4 := blk_frozen BK158.out 4
        obtain ⟨Ao15, co15, eo15⟩ := Kd.N_slice HO_5.out
        subst eo15
        have p162 : 0 ≤ (x6_1 : Int) := qD
        have q162 : x6_1 < (l0_4.length : Int) := qD
        obtain ⟨ad162, A162_3, c162_3, A162_4, c162_4, e162, hx162_0, hx162_1, hx162_2, hx162_3, hx162_4, hl162_3, hi162_3, hl162_4, hi162_4⟩ := at_T28 (Kd.V_reads' HO_159004.out).2.2 x6_1 p162 q162
        cases e162
        obtain ⟨ce162, hce162, hMe162, hcc162⟩ := Kd.V_get HO_159004.out z28 x6_1 p162 (by first | exact q162 | exact qD | (have e_ := (Kd.V_reads' HO_159004.out).1; omega))
        obtain ⟨ua162_3, uc162_3, ua162_4, uc162_4, rfl, ul162_3, ge162_3, ul162_4, ge162_4⟩ := k28_openF hMe162
        have hv162_3 := hcc162 3 _ rfl
        rw [add_field _ _ 3 (by omega)] at hv162_3
        replace hv162_3 := qI (hv162_3.symm.trans hx162_3)
        injection hv162_3 with hva_ hvn_ hvc_
        rw [hva_] at ge162_3
        rw [hvc_] at ul162_3
        have HL162_3 := qM (show Kd.V (Kd.int .u8) 5 _ w.heap.size _ _ ((rd_T28 l0_4 x6_1).f3) from Kd.V_mk ul162_3 ge162_3)
        clear hva_ hvn_ hvc_ ge162_3 ul162_3
        have hv162_4 := hcc162 4 _ rfl
        rw [add_field _ _ 4 (by omega)] at hv162_4
        replace hv162_4 := qI (hv162_4.symm.trans hx162_4)
        injection hv162_4 with hva_ hvn_ hvc_
        rw [hva_] at ge162_4
        rw [hvc_] at ul162_4
        have HL162_4 := qM (show Kd.V k28 28 _ w.heap.size _ _ ((rd_T28 l0_4 x6_1).f4) from Kd.V_mk ul162_4 ge162_4)
        clear hva_ hvn_ hvc_ ge162_4 ul162_4; clear hcc162 hce162
        have HR162_3 := qM hi162_3
        have HC162_3 := qM hl162_3
        clear hi162_3 hl162_3
        have HR162_4 := qM hi162_4
        have HC162_4 := qM hl162_4
        clear hi162_4 hl162_4
        replace p162 := eq_true p162
        replace q162 := eq_true q162
        go_wp2_with (first | ((with_reducible refine gate_callee (f := 16) rfl ?_); refine goesL_ (some 34) rfl rfl Tryd.func16 (by kernel_rfl) rfl #[.agg #[.int .i64 ((rd_T28 l0_4 x6_1).f0), .string ((rd_T28 l0_4 x6_1).f1), .int .i64 ((rd_T28 l0_4 x6_1).f2), .slice A162_3 ((rd_T28 l0_4 x6_1).f3).length c162_3, .slice A162_4 ((rd_T28 l0_4 x6_1).f4).length c162_4], .int .i64 (wrap64 (a1 - (x5_1.length : Int)))] rfl (by (try simp only [List.map_toArray, List.map_cons, List.map_nil]); first | done | rfl | (simp only [List.length_drop, List.length_take]; rfl)) ?_; (with_reducible refine (ih k1 (by have := HK1.out; omega) ((rd_T28 l0_4 x6_1).f0) ((rd_T28 l0_4 x6_1).f1) ((rd_T28 l0_4 x6_1).f2) (fun k_ => (((P0_3_ k_ ∨ P0_4_ k_) ∨ w.heap.size ≤ k_) ∧ (some k_ ≠ (.slice Ao15 x5_1.length co15 : Value).ownBlock ∧ k_ ≠ gb158))) _ _ ((rd_T28 l0_4 x6_1).f3) (fun k_ => (((P0_3_ k_ ∨ P0_4_ k_) ∨ w.heap.size ≤ k_) ∧ (some k_ ≠ (.slice Ao15 x5_1.length co15 : Value).ownBlock ∧ k_ ≠ gb158))) _ _ ((rd_T28 l0_4 x6_1).f4) (wrap64 (a1 - (x5_1.length : Int))) t163 _ ?side1 ?side2 A12.out).mono ?_); (case side1 => exact HL162_3.out); (case side2 => exact HL162_4.out); rintro e w16 ⟨v164, rfl, ho0, hb⟩; refine ⟨_, rfl, ?_⟩; have n0_ := qM (Kd.N_elder' (qN HO_5.out) (Kd.N_base ho0) hb); have n1_ := qM (Kd.V_elder' (qV HO_159003.out) (Kd.N_base ho0) hb); have n2_ := qM (Kd.V_elder' (qV HO_159004.out) (Kd.N_base ho0) hb); have n3_ := qM (Kd.V_elder' (qV HL162_3.out) (Kd.N_base ho0) hb); have n4_ := qM (Kd.V_elder' (qV HL162_4.out) (Kd.N_base ho0) hb); have n5_ := qM (Kd.N_lower (Kd.N_mono (ok' := fun k_ => ((P0_3_ k_ ∨ P0_4_ k_) ∨ w.heap.size ≤ k_) ∧ some k_ ≠ (.slice Ao15 x5_1.length co15 : Value).ownBlock ∧ k_ ≠ gb158) ho0 (fun k_ hk_ => ⟨Or.elim hk_ (fun hs_ => Or.elim hs_ (fun hs_ => hs_.1) (fun hs_ => hs_.1)) (fun hn_ => (.inr (Nat.le_trans (below_size (by repeat (first | (with_reducible first | exact HB.out | apply below_alloc | apply pw_below_drewN | apply below_drew1 | refine below_set ?_ GE158.out) | exact HB.out))) hn_))), Or.elim hk_ (fun hs_ => Or.elim hs_ (fun hs_ => hs_.2.1) (fun hs_ => hs_.2.1)) (fun hn_ => (Kd.fresh' (Kd.N_lt (qN HO_5.out)) k_ hn_)), Or.elim hk_ (fun hs_ => Or.elim hs_ (fun hs_ => hs_.2.2) (fun hs_ => hs_.2.2)) (fun hn_ => (Kd.freshB (g := gb158) (o := .cells #[.int .i64 a0_0, .string a0_1, .int .i64 a0_2, .slice A0_3 l0_3.length c0_3, .slice (some ad162) l0_4.length c0_4] 28 (0, 0)) (qK BK158.out) k_ hn_))⟩)) (below_size (by repeat (first | (with_reducible first | exact HB.out | apply below_alloc | apply pw_below_drewN | apply below_drew1 | refine below_set ?_ GE158.out) | exact HB.out)))); have n6_ := qM (blk_below (g := gb158) (o := .cells #[.int .i64 a0_0, .string a0_1, .int .i64 a0_2, .slice A0_3 l0_3.length c0_3, .slice (some ad162) l0_4.length c0_4] 28 (0, 0)) (qK BK158.out) hb); have n7_ := qM (Kd.C_below (by repeat (first | (with_reducible exact HR162_3.out) | (with_reducible refine Kd.C_alloc ?_ _) | (with_reducible refine Kd.C_drewN ?_ _) | (with_reducible refine Kd.C_drew ?_) | exact HR162_3.out)) hb); have n8_ := qM (Kd.C_below (by repeat (first | (with_reducible exact HR162_4.out) | (with_reducible refine Kd.C_alloc ?_ _) | (with_reducible refine Kd.C_drewN ?_ _) | (with_reducible refine Kd.C_drew ?_) | exact HR162_4.out)) hb); have n9_ := qM (below_step (by repeat (first | (with_reducible first | exact HB.out | apply below_alloc | apply pw_below_drewN | apply below_drew1 | refine below_set ?_ GE158.out) | exact HB.out)) hb); clear HO_5; clear HO_159003; clear HO_159004; clear HL162_3; clear HL162_4; clear BK158; clear HR162_3; clear HR162_4; clear HB; have HO_5 := n0_; have HO_159003 := n1_; have HO_159004 := n2_; have HL162_3 := n3_; have HL162_4 := n4_; have HO165 := n5_; have BK158 := n6_; have HR162_3 := n7_; have HR162_4 := n8_; have HB := n9_; clear n0_ n1_ n2_ n3_ n4_ n5_ n6_ n7_ n8_ n9_; (try clear hb); (try clear hb2); (try clear hk); (try clear hi); (try clear ho0); obtain ⟨Ao18, co18, eo18⟩ := Kd.N_slice HO165.out; subst eo18) | ((with_reducible refine gate_builtin (b := .append) (xs := #[.tmp 24, .tmp 34]) rfl ?_); (try (refine gate_guard (by rfl) ?_; dsimp only)); at_builtin; refine Kd.N_append_rows k28 (w0 := w) w.heap.size rfl (.tmp 24) (.tmp 34) 26 28 (.agg #[(.int .i64 0), (.string ⟨#[]⟩), (.int .i64 0), (.slice none 0 0), (.slice none 0 0)]) 80 rfl Tryd.underlying26 info28 rfl (by decide) (by omega) (.slice Ao15 x5_1.length co15) x5_1 t163 _ _ _ (fun k_ => ((P0_3_ k_ ∨ P0_4_ k_) ∨ w.heap.size ≤ k_) ∧ k_ ≠ gb158) (fun k_ => ((fun k_ => ((P0_3_ k_ ∨ P0_4_ k_) ∨ w.heap.size ≤ k_) ∧ k_ ≠ gb158)) k_ ∧ some k_ ≠ (.slice Ao15 x5_1.length co15 : Value).ownBlock) rfl rfl ?aO ?aR (fun _ hk => hk) ?aF ?aB ?aS ?aL ?_; (case aR => exact (by skip; exact Kd.N_F (Kd.N_mono (ok' := (fun k_ => ((fun k_ => ((P0_3_ k_ ∨ P0_4_ k_) ∨ w.heap.size ≤ k_) ∧ k_ ≠ gb158)) k_ ∧ some k_ ≠ (.slice Ao15 x5_1.length co15 : Value).ownBlock)) (HO165.out) (fun k_ hk => ⟨⟨hk.1, hk.2.2⟩, hk.2.1⟩)))); (case aB => exact (by repeat (first | (with_reducible first | exact HB.out | apply below_alloc | apply pw_below_drewN | apply below_drew1 | refine below_set ?_ GE158.out) | exact HB.out))); (case aF => exact (fun k_ hk => ⟨(.inr (Nat.le_trans (below_size (by repeat (first | (with_reducible first | exact HB.out | apply below_alloc | apply pw_below_drewN | apply below_drew1 | refine below_set ?_ GE158.out) | exact HB.out))) hk)), Kd.freshB (g := gb158) (o := .cells #[.int .i64 a0_0, .string a0_1, .int .i64 a0_2, .slice A0_3 l0_3.length c0_3, .slice (some ad162) l0_4.length c0_4] 28 (0, 0)) (qK BK158.out) k_ hk⟩)); (case aO => exact (by (with_reducible repeat (first | apply Kd.N_alloc | apply Kd.N_drewN | apply Kd.N_drew)); exact Kd.N_mono HO_5.out (fun _ hk => ⟨hk.1.1, hk.1.2⟩))); (case aS => exact (below_size (by repeat (first | (with_reducible first | exact HB.out | apply below_alloc | apply pw_below_drewN | apply below_drew1 | refine below_set ?_ GE158.out) | exact HB.out)))); (case aL => have := LMc13.out; omega); intro v167 w17 ho hb hg hat; rw [← Ny166.out] at ho; have n0_ := qM (Kd.V_afterv (ok := (fun k_ => ((P0_3_ k_ ∨ P0_4_ k_) ∨ w.heap.size ≤ k_) ∧ some k_ ≠ (.slice Ao18 t163.length co18 : Value).ownBlock ∧ k_ ≠ gb158)) (by (with_reducible repeat (first | apply Kd.V_alloc | apply Kd.V_drewN | apply Kd.V_drew)); exact Kd.V_mono HO_159003.out (fun _ hk => ⟨⟨hk.1.1, ⟨hk.2, hk.1.2.2⟩⟩, hk.1.2.1⟩)) hg hat); have n1_ := qM (Kd.V_afterv (ok := (fun k_ => ((P0_3_ k_ ∨ P0_4_ k_) ∨ w.heap.size ≤ k_) ∧ some k_ ≠ (.slice Ao18 t163.length co18 : Value).ownBlock ∧ k_ ≠ gb158)) (by (with_reducible repeat (first | apply Kd.V_alloc | apply Kd.V_drewN | apply Kd.V_drew)); exact Kd.V_mono HO_159004.out (fun _ hk => ⟨⟨hk.1.1, ⟨hk.2, hk.1.2.2⟩⟩, hk.1.2.1⟩)) hg hat); have n2_ := qM (blk_grown (g := gb158) (o := .cells #[.int .i64 a0_0, .string a0_1, .int .i64 a0_2, .slice A0_3 l0_3.length c0_3, .slice (some ad162) l0_4.length c0_4] 28 (0, 0)) (qK BK158.out) hg (Kd.N_away HO_5.out (fun _ hk => hk.1.2))); have n3_ := qM (Kd.V_afterv (ok := (fun k_ => ((P0_3_ k_ ∨ P0_4_ k_) ∨ w.heap.size ≤ k_) ∧ some k_ ≠ (.slice Ao18 t163.length co18 : Value).ownBlock ∧ k_ ≠ gb158)) (by (with_reducible repeat (first | apply Kd.V_alloc | apply Kd.V_drewN | apply Kd.V_drew)); exact Kd.V_mono HL162_3.out (fun _ hk => ⟨⟨hk.1.1, ⟨hk.2, hk.1.2.2⟩⟩, hk.1.2.1⟩)) hg hat); have n4_ := qM (Kd.V_afterv (ok := (fun k_ => ((P0_3_ k_ ∨ P0_4_ k_) ∨ w.heap.size ≤ k_) ∧ some k_ ≠ (.slice Ao18 t163.length co18 : Value).ownBlock ∧ k_ ≠ gb158)) (by (with_reducible repeat (first | apply Kd.V_alloc | apply Kd.V_drewN | apply Kd.V_drew)); exact Kd.V_mono HL162_4.out (fun _ hk => ⟨⟨hk.1.1, ⟨hk.2, hk.1.2.2⟩⟩, hk.1.2.1⟩)) hg hat); have n5_ := qM (Kd.N_afterv (ok := (fun k_ => ((P0_3_ k_ ∨ P0_4_ k_) ∨ w.heap.size ≤ k_) ∧ k_ ≠ gb158)) (by (with_reducible repeat (first | apply Kd.N_alloc | apply Kd.N_drewN | apply Kd.N_drew)); exact Kd.N_mono HO165.out (fun _ hk => ⟨⟨hk.1, hk.2.2⟩, hk.2.1⟩)) hg hat); have n6_ := qM (hb); have n7_ := qM (ho); clear HO_159003; clear HO_159004; clear BK158; clear HL162_3; clear HL162_4; clear HO165; clear HB; clear HO_5; have HO_159003 := n0_; have HO_159004 := n1_; have BK158 := n2_; have HL162_3 := n3_; have HL162_4 := n4_; have HO165 := n5_; have HB := n6_; have HO168 := n7_; clear n0_ n1_ n2_ n3_ n4_ n5_ n6_ n7_; clear ho hb hg hat))
        go_roundg k1
        case measure => have := HK1.out; omega
        case rel => exact ⟨(y166), (wrap64 (x6_1 + 1)), qS, H', ⟨by have := HK1.out; omega⟩, ⟨qN HO168.out⟩, ⟨by (with_reducible repeat (first | apply Kd.V_alloc | apply Kd.V_drewN | apply Kd.V_drew)); exact Kd.V_mono HO_159003.out (fun _ hk => ⟨hk.1.1, ⟨hk.2, hk.1.2.2⟩⟩)⟩, ⟨by (with_reducible repeat (first | apply Kd.V_alloc | apply Kd.V_drewN | apply Kd.V_drew)); exact Kd.V_mono HO_159004.out (fun _ hk => ⟨hk.1.1, ⟨hk.2, hk.1.2.2⟩⟩)⟩, ⟨qK BK158.out⟩, ⟨by repeat (first | (with_reducible first | exact HB.out | apply below_alloc | apply pw_below_drewN | apply below_drew1 | refine below_set ?_ GE158.out) | exact HB.out)⟩⟩
       ·
        rw [if_neg c13] at H
        exact absurd H (by simp)
      ·
       rw [if_neg c11] at H
       exact absurd H (by simp)
     ·
      rw [if_neg c10] at H
      have c10b0 : decide ((x5_1.length : Int) < a1) = false := decide_eq_false c10
      clear c10
      obtain rfl := qI H
      have hcz19_0 : wr.cell? ⟨gb158, 0, none⟩ = some (.int .i64 a0_0) := (blk_cell BK158.out 0).trans rfl
      have hcz19_1 : wr.cell? ⟨gb158, 1, none⟩ = some (.string a0_1) := (blk_cell BK158.out 1).trans rfl
      have hcz19_2 : wr.cell? ⟨gb158, 2, none⟩ = some (.int .i64 a0_2) := (blk_cell BK158.out 2).trans rfl
      have hcz19_3 : wr.cell? ⟨gb158, 3, none⟩ = some (.slice A0_3 l0_3.length c0_3) := (blk_cell BK158.out 3).trans rfl
      have hcz19_4 : wr.cell? ⟨gb158, 4, none⟩ = some (.slice A0_4 l0_4.length c0_4) := (blk_cell BK158.out 4).trans rfl
      have hfz19_0 := blk_frozen BK158.out 0
      have hfz19_1 := blk_frozen BK158.out 1
      have hfz19_2 := blk_frozen BK158.out 2
      have hfz19_3 := blk_frozen BK158.out 3
      have hfz19_4 := blk_frozen BK158.out 4
      obtain ⟨Ao20, co20, eo20⟩ := Kd.N_slice HO_5.out
      subst eo20
      go_wp2
      go_ret
      exact ⟨_, by first | rfl | (simp [errW_none, errW_some] <;> rfl) | (simp [*, errW_none, errW_some] <;> rfl), by (with_reducible repeat (first | apply Kd.N_alloc | apply Kd.N_drewN | apply Kd.N_drew)); exact Kd.N_mono HO_5.out (fun _ hk => hk.1), by repeat (first | (with_reducible first | exact HB.out | apply below_alloc | apply pw_below_drewN | apply below_drew1 | refine below_set ?_ GE158.out) | exact HB.out)⟩
    ·
     rw [if_neg c9] at H
     have c9b0 : decide (x6_1 < (l0_4.length : Int)) = false := decide_eq_false c9
     clear c9
     obtain rfl := qI H
     have hcz21_0 : wr.cell? ⟨gb158, 0, none⟩ = some (.int .i64 a0_0) := (blk_cell BK158.out 0).trans rfl
     have hcz21_1 : wr.cell? ⟨gb158, 1, none⟩ = some (.string a0_1) := (blk_cell BK158.out 1).trans rfl
     have hcz21_2 : wr.cell? ⟨gb158, 2, none⟩ = some (.int .i64 a0_2) := (blk_cell BK158.out 2).trans rfl
     have hcz21_3 : wr.cell? ⟨gb158, 3, none⟩ = some (.slice A0_3 l0_3.length c0_3) := (blk_cell BK158.out 3).trans rfl
     have hcz21_4 : wr.cell? ⟨gb158, 4, none⟩ = some (.slice A0_4 l0_4.length c0_4) := (blk_cell BK158.out 4).trans rfl
     have hfz21_0 := blk_frozen BK158.out 0
     have hfz21_1 := blk_frozen BK158.out 1
     have hfz21_2 := blk_frozen BK158.out 2
     have hfz21_3 := blk_frozen BK158.out 3
     have hfz21_4 := blk_frozen BK158.out 4
     go_wp2
     go_ret
     exact ⟨_, by first | rfl | (simp [errW_none, errW_some] <;> rfl) | (simp [*, errW_none, errW_some] <;> rfl), by (with_reducible repeat (first | apply Kd.N_alloc | apply Kd.N_drewN | apply Kd.N_drew)); exact Kd.N_mono HO_5.out (fun _ hk => hk.1), by repeat (first | (with_reducible first | exact HB.out | apply below_alloc | apply pw_below_drewN | apply below_drew1 | refine below_set ?_ GE158.out) | exact HB.out)⟩

end Go.Proofs.YtejidddjkngoiaaDoor.PGram
