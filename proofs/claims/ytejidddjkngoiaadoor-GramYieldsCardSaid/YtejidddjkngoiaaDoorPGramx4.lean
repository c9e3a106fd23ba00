-- Written by a turned copy of the kit's printer (wip/patch_print.py), in this project; not trusted: Lean checks it.
import Derived.Test.YtejidddjkngoiaaDoorPGramx0
import Derived.Test.YtejidddjkngoiaaDoorPGramx2
import Derived.Test.YtejidddjkngoiaaDoorPGramx3
namespace Go.Proofs.YtejidddjkngoiaaDoor.PGram
open Go.RowKit Go.Proofs.YtejidddjkngoiaaDoorW.PrintWords Go.Proofs.YtejidddjkngoiaaDoorW.PrintLast Go.Proofs.YtejidddjkngoiaaDoorW.PrintMore
attribute [local go_sem] max2_int min2_int max_two min_two max_three min_three max_four min_four   -- for this text's walks alone
set_option linter.unusedVariables false
set_option linter.unusedSimpArgs false

/-! ### rookerylaw16_GramYields: function 6 -/
mutual
def rookerylaw16_GramYields.l0 : Nat → List (S44) → List ByteArray → List Int → ByteArray → Int → Int → ByteArray → Int → List Int → List (S28) → Option (Bool)
 | 0, _, _, _, _, _, _, _, _, _, _ => none
 | k + 1, x3, x8, x9, x10, x11, x187000, x187001, x187002, x187003, x187004 => if x11 < (x3.length : Int) then (if 0 ≤ x11 then (if ((rd_T44 x3 x11).f0) = 2 then (rookerylaw16_GramYields.j1 k x3 x8 x9 x10 x11 true x187000 x187001 x187002 x187003 x187004) else (rookerylaw16_GramYields.j1 k x3 x8 x9 x10 x11 (((rd_T44 x3 x11).f0) == 3) x187000 x187001 x187002 x187003 x187004)) else (none)) else ((rookeryref16_All.f k x187000 x187001 x187002 x187003 x187004 30000).bind fun t207 => (rookerylaw16_GramYields.l1 k 0 x8 x9 x10 t207 0 x187000 x187001 x187002 x187003 x187004))
def rookerylaw16_GramYields.j1 : Nat → List (S44) → List ByteArray → List Int → ByteArray → Int → Bool → Int → ByteArray → Int → List Int → List (S28) → Option (Bool)
 | 0, _, _, _, _, _, _, _, _, _, _, _ => none
 | k + 1, x3, x8, x9, x10, x11, x64, x187000, x187001, x187002, x187003, x187004 => if x64 = true then (if 0 ≤ x11 then (if x11 < (x3.length : Int) then (if x8.length < 8796093022208 then ((some (x8 ++ [(rd_T44 x3 x11).f1] : List ByteArray)).bind fun y190 => (if ((rd_T44 x3 x11).f0) = 1 then (if x9.length < 17592186044416 then (if x10.size + (strOfNums ((rd_T44 x3 x11).f3)).size ≤ 9223372036854775807 then (rookerylaw16_GramYields.l0 k x3 y190 (x9 ++ [(rd_T44 x3 x11).f2]) (x10 ++ (strOfNums ((rd_T44 x3 x11).f3))) (wrap64 (x11 + 1)) x187000 x187001 x187002 x187003 x187004) else (none)) else (none)) else (if x10.size + (strOfNums ((rd_T44 x3 x11).f3)).size ≤ 9223372036854775807 then (rookerylaw16_GramYields.l0 k x3 y190 x9 (x10 ++ (strOfNums ((rd_T44 x3 x11).f3))) (wrap64 (x11 + 1)) x187000 x187001 x187002 x187003 x187004) else (none)))) else (none)) else (none)) else (none)) else (if 0 ≤ x11 then (if x11 < (x3.length : Int) then (if ((rd_T44 x3 x11).f0) = 1 then (if x9.length < 17592186044416 then (if x10.size + (strOfNums ((rd_T44 x3 x11).f3)).size ≤ 9223372036854775807 then (rookerylaw16_GramYields.l0 k x3 x8 (x9 ++ [(rd_T44 x3 x11).f2]) (x10 ++ (strOfNums ((rd_T44 x3 x11).f3))) (wrap64 (x11 + 1)) x187000 x187001 x187002 x187003 x187004) else (none)) else (none)) else (if x10.size + (strOfNums ((rd_T44 x3 x11).f3)).size ≤ 9223372036854775807 then (rookerylaw16_GramYields.l0 k x3 x8 x9 (x10 ++ (strOfNums ((rd_T44 x3 x11).f3))) (wrap64 (x11 + 1)) x187000 x187001 x187002 x187003 x187004) else (none))) else (none)) else (none))
def rookerylaw16_GramYields.l1 : Nat → Int → List ByteArray → List Int → ByteArray → List (S28) → Int → Int → ByteArray → Int → List Int → List (S28) → Option (Bool)
 | 0, _, _, _, _, _, _, _, _, _, _, _ => none
 | k + 1, x7, x8, x9, x10, x12, x13, x187000, x187001, x187002, x187003, x187004 => if x13 < (x12.length : Int) then (if 0 ≤ x13 then (if ((rd_T28 x12 x13).f0) = 1 then (if x7 ≥ (x9.length : Int) then (rookerylaw16_GramYields.j3 k x7 x8 x9 x10 x12 x13 true x187000 x187001 x187002 x187003 x187004) else (if 0 ≤ x7 then (if x7 < (x9.length : Int) then (rookerylaw16_GramYields.j3 k x7 x8 x9 x10 x12 x13 ((rd x9 x7) != ((rd_T28 x12 x13).f2)) x187000 x187001 x187002 x187003 x187004) else (none)) else (none))) else (if (x10.size : Int) < (((rd_T28 x12 x13).f3).length : Int) then (some false) else (if 0 ≤ (((rd_T28 x12 x13).f3).length : Int) then (if (((rd_T28 x12 x13).f3).length : Int) ≤ (x10.size : Int) then (if (x10.extract 0 ((((rd_T28 x12 x13).f3).length : Int) : Int).toNat).toList = (strOfNums ((rd_T28 x12 x13).f3)).toList then (rookerylaw16_GramYields.l1 k x7 x8 x9 (x10.extract ((((rd_T28 x12 x13).f3).length : Int) : Int).toNat x10.size) x12 (wrap64 (x13 + 1)) x187000 x187001 x187002 x187003 x187004) else (some false)) else (none)) else (none)))) else (none)) else (if x7 = (x9.length : Int) then (if x10.toList = ([] : List UInt8) then ((gram_Names.f x187000 x187001 x187002 x187003 x187004).bind fun t210 => ((rookeryref16_Texts.f k t210 x8).bind fun t213 => (some t213))) else (some false)) else (some false))
def rookerylaw16_GramYields.j3 : Nat → Int → List ByteArray → List Int → ByteArray → List (S28) → Int → Bool → Int → ByteArray → Int → List Int → List (S28) → Option (Bool)
 | 0, _, _, _, _, _, _, _, _, _, _, _, _ => none
 | k + 1, x7, x8, x9, x10, x12, x13, x124, x187000, x187001, x187002, x187003, x187004 => if x124 = true then (some false) else (if 0 ≤ x13 then (if x13 < (x12.length : Int) then (if (x10.size : Int) < (((rd_T28 x12 x13).f3).length : Int) then (some false) else (if 0 ≤ (((rd_T28 x12 x13).f3).length : Int) then (if (((rd_T28 x12 x13).f3).length : Int) ≤ (x10.size : Int) then (if (x10.extract 0 ((((rd_T28 x12 x13).f3).length : Int) : Int).toNat).toList = (strOfNums ((rd_T28 x12 x13).f3)).toList then (rookerylaw16_GramYields.l1 k (wrap64 (x7 + 1)) x8 x9 (x10.extract ((((rd_T28 x12 x13).f3).length : Int) : Int).toNat x10.size) x12 (wrap64 (x13 + 1)) x187000 x187001 x187002 x187003 x187004) else (some false)) else (none)) else (none))) else (none)) else (none))
end
def rookerylaw16_GramYields.f (k : Nat) (a0 : ByteArray) : Option (Bool) := (rookerylaw16_alive.f).bind fun t169 => (if t169 = true then ((lex_Scan.f k a0).bind fun bt170 => (if bt170.2.2 = 0 then ((gram_Parse.f bt170.1).bind fun bt175 => (if bt175.2.2.2.2.2.2 = 0 then (rookerylaw16_GramYields.l0 k bt170.1 ([] : List ByteArray) ([] : List Int) (⟨#[]⟩ : ByteArray) 0 bt175.1 bt175.2.1 bt175.2.2.1 bt175.2.2.2.1 bt175.2.2.2.2.1) else (if bt175.2.2.2.2.2.1 ≥ 0 then (if bt175.2.2.2.2.2.1 ≤ (bt170.1.length : Int) then (some (bt175.1 == 0)) else (some false)) else (some false)))) else (some true))) else (some false))
theorem rookerylaw16_GramYields.mono_l : ∀ k, (∀ y0 y1 y2 y3 y4 y5 y6 y7 y8 y9, LeO (rookerylaw16_GramYields.l0 k y0 y1 y2 y3 y4 y5 y6 y7 y8 y9) (rookerylaw16_GramYields.l0 (k + 1) y0 y1 y2 y3 y4 y5 y6 y7 y8 y9)) ∧ (∀ y0 y1 y2 y3 y4 y5 y6 y7 y8 y9 y10, LeO (rookerylaw16_GramYields.j1 k y0 y1 y2 y3 y4 y5 y6 y7 y8 y9 y10) (rookerylaw16_GramYields.j1 (k + 1) y0 y1 y2 y3 y4 y5 y6 y7 y8 y9 y10)) ∧ (∀ y0 y1 y2 y3 y4 y5 y6 y7 y8 y9 y10, LeO (rookerylaw16_GramYields.l1 k y0 y1 y2 y3 y4 y5 y6 y7 y8 y9 y10) (rookerylaw16_GramYields.l1 (k + 1) y0 y1 y2 y3 y4 y5 y6 y7 y8 y9 y10)) ∧ (∀ y0 y1 y2 y3 y4 y5 y6 y7 y8 y9 y10 y11, LeO (rookerylaw16_GramYields.j3 k y0 y1 y2 y3 y4 y5 y6 y7 y8 y9 y10 y11) (rookerylaw16_GramYields.j3 (k + 1) y0 y1 y2 y3 y4 y5 y6 y7 y8 y9 y10 y11))
 | 0 => ⟨fun _ _ _ _ _ _ _ _ _ _ r h => by simp [rookerylaw16_GramYields.l0] at h, fun _ _ _ _ _ _ _ _ _ _ _ r h => by simp [rookerylaw16_GramYields.j1] at h, fun _ _ _ _ _ _ _ _ _ _ _ r h => by simp [rookerylaw16_GramYields.l1] at h, fun _ _ _ _ _ _ _ _ _ _ _ _ r h => by simp [rookerylaw16_GramYields.j3] at h⟩
 | k + 1 => by
  obtain ⟨ih0, ih1, ih2, ih3⟩ := rookerylaw16_GramYields.mono_l k
  refine ⟨?_, ?_, ?_, ?_⟩
  ·
   intro y0 y1 y2 y3 y4 y5 y6 y7 y8 y9
   unfold rookerylaw16_GramYields.l0
   repeat' first
   | (with_reducible exact ih0 _ _ _ _ _ _ _ _ _ _)
   | (with_reducible exact ih1 _ _ _ _ _ _ _ _ _ _ _)
   | (with_reducible exact ih2 _ _ _ _ _ _ _ _ _ _ _)
   | (with_reducible exact ih3 _ _ _ _ _ _ _ _ _ _ _ _)
   | (with_reducible exact lex_Scan.mono _ _)
   | (with_reducible exact rookeryref16_All.mono _ _ _ _ _ _ _)
   | (with_reducible exact rookeryref16_Texts.mono _ _ _)
   | (with_reducible exact LeO.refl _)
   | (with_reducible exact LeO.none _)
   | (with_reducible refine LeO.ite ?_ ?_)
   | (with_reducible refine LeO.bind ?_ (fun _ => ?_))
   | exact ih0 _ _ _ _ _ _ _ _ _ _
   | exact ih1 _ _ _ _ _ _ _ _ _ _ _
   | exact ih2 _ _ _ _ _ _ _ _ _ _ _
   | exact ih3 _ _ _ _ _ _ _ _ _ _ _ _
   | exact lex_Scan.mono _ _
   | exact rookeryref16_All.mono _ _ _ _ _ _ _
   | exact rookeryref16_Texts.mono _ _ _
   | exact LeO.none _
   | refine LeO.ite ?_ ?_
   | refine LeO.bind ?_ (fun _ => ?_)
  ·
   intro y0 y1 y2 y3 y4 y5 y6 y7 y8 y9 y10
   unfold rookerylaw16_GramYields.j1
   repeat' first
   | (with_reducible exact ih0 _ _ _ _ _ _ _ _ _ _)
   | (with_reducible exact ih1 _ _ _ _ _ _ _ _ _ _ _)
   | (with_reducible exact ih2 _ _ _ _ _ _ _ _ _ _ _)
   | (with_reducible exact ih3 _ _ _ _ _ _ _ _ _ _ _ _)
   | (with_reducible exact lex_Scan.mono _ _)
   | (with_reducible exact rookeryref16_All.mono _ _ _ _ _ _ _)
   | (with_reducible exact rookeryref16_Texts.mono _ _ _)
   | (with_reducible exact LeO.refl _)
   | (with_reducible exact LeO.none _)
   | (with_reducible refine LeO.ite ?_ ?_)
   | (with_reducible refine LeO.bind ?_ (fun _ => ?_))
   | exact ih0 _ _ _ _ _ _ _ _ _ _
   | exact ih1 _ _ _ _ _ _ _ _ _ _ _
   | exact ih2 _ _ _ _ _ _ _ _ _ _ _
   | exact ih3 _ _ _ _ _ _ _ _ _ _ _ _
   | exact lex_Scan.mono _ _
   | exact rookeryref16_All.mono _ _ _ _ _ _ _
   | exact rookeryref16_Texts.mono _ _ _
   | exact LeO.none _
   | refine LeO.ite ?_ ?_
   | refine LeO.bind ?_ (fun _ => ?_)
  ·
   intro y0 y1 y2 y3 y4 y5 y6 y7 y8 y9 y10
   unfold rookerylaw16_GramYields.l1
   repeat' first
   | (with_reducible exact ih0 _ _ _ _ _ _ _ _ _ _)
   | (with_reducible exact ih1 _ _ _ _ _ _ _ _ _ _ _)
   | (with_reducible exact ih2 _ _ _ _ _ _ _ _ _ _ _)
   | (with_reducible exact ih3 _ _ _ _ _ _ _ _ _ _ _ _)
   | (with_reducible exact lex_Scan.mono _ _)
   | (with_reducible exact rookeryref16_All.mono _ _ _ _ _ _ _)
   | (with_reducible exact rookeryref16_Texts.mono _ _ _)
   | (with_reducible exact LeO.refl _)
   | (with_reducible exact LeO.none _)
   | (with_reducible refine LeO.ite ?_ ?_)
   | (with_reducible refine LeO.bind ?_ (fun _ => ?_))
   | exact ih0 _ _ _ _ _ _ _ _ _ _
   | exact ih1 _ _ _ _ _ _ _ _ _ _ _
   | exact ih2 _ _ _ _ _ _ _ _ _ _ _
   | exact ih3 _ _ _ _ _ _ _ _ _ _ _ _
   | exact lex_Scan.mono _ _
   | exact rookeryref16_All.mono _ _ _ _ _ _ _
   | exact rookeryref16_Texts.mono _ _ _
   | exact LeO.none _
   | refine LeO.ite ?_ ?_
   | refine LeO.bind ?_ (fun _ => ?_)
  ·
   intro y0 y1 y2 y3 y4 y5 y6 y7 y8 y9 y10 y11
   unfold rookerylaw16_GramYields.j3
   repeat' first
   | (with_reducible exact ih0 _ _ _ _ _ _ _ _ _ _)
   | (with_reducible exact ih1 _ _ _ _ _ _ _ _ _ _ _)
   | (with_reducible exact ih2 _ _ _ _ _ _ _ _ _ _ _)
   | (with_reducible exact ih3 _ _ _ _ _ _ _ _ _ _ _ _)
   | (with_reducible exact lex_Scan.mono _ _)
   | (with_reducible exact rookeryref16_All.mono _ _ _ _ _ _ _)
   | (with_reducible exact rookeryref16_Texts.mono _ _ _)
   | (with_reducible exact LeO.refl _)
   | (with_reducible exact LeO.none _)
   | (with_reducible refine LeO.ite ?_ ?_)
   | (with_reducible refine LeO.bind ?_ (fun _ => ?_))
   | exact ih0 _ _ _ _ _ _ _ _ _ _
   | exact ih1 _ _ _ _ _ _ _ _ _ _ _
   | exact ih2 _ _ _ _ _ _ _ _ _ _ _
   | exact ih3 _ _ _ _ _ _ _ _ _ _ _ _
   | exact lex_Scan.mono _ _
   | exact rookeryref16_All.mono _ _ _ _ _ _ _
   | exact rookeryref16_Texts.mono _ _ _
   | exact LeO.none _
   | refine LeO.ite ?_ ?_
   | refine LeO.bind ?_ (fun _ => ?_)
theorem rookerylaw16_GramYields.mono : ∀ a0 k, LeO (rookerylaw16_GramYields.f k a0) (rookerylaw16_GramYields.f (k + 1) a0) := by
 intro a0 k
 obtain ⟨ih0, ih1, ih2, ih3⟩ := rookerylaw16_GramYields.mono_l k
 unfold rookerylaw16_GramYields.f
 repeat' first
   | (with_reducible exact ih0 _ _ _ _ _ _ _ _ _ _)
   | (with_reducible exact ih1 _ _ _ _ _ _ _ _ _ _ _)
   | (with_reducible exact ih2 _ _ _ _ _ _ _ _ _ _ _)
   | (with_reducible exact ih3 _ _ _ _ _ _ _ _ _ _ _ _)
   | (with_reducible exact lex_Scan.mono _ _)
   | (with_reducible exact rookeryref16_All.mono _ _ _ _ _ _ _)
   | (with_reducible exact rookeryref16_Texts.mono _ _ _)
   | (with_reducible exact LeO.refl _)
   | (with_reducible exact LeO.none _)
   | (with_reducible refine LeO.ite ?_ ?_)
   | (with_reducible refine LeO.bind ?_ (fun _ => ?_))
   | exact ih0 _ _ _ _ _ _ _ _ _ _
   | exact ih1 _ _ _ _ _ _ _ _ _ _ _
   | exact ih2 _ _ _ _ _ _ _ _ _ _ _
   | exact ih3 _ _ _ _ _ _ _ _ _ _ _ _
   | exact lex_Scan.mono _ _
   | exact rookeryref16_All.mono _ _ _ _ _ _ _
   | exact rookeryref16_Texts.mono _ _ _
   | exact LeO.none _
   | refine LeO.ite ?_ ?_
   | refine LeO.bind ?_ (fun _ => ?_)
set_option maxHeartbeats 8000000 in
set_option maxRecDepth 100000 in
theorem rookerylaw16_GramYields.calls (k : Nat) (a0 : ByteArray) (r : Bool) (w : World) (hG : Glob w) (h : rookerylaw16_GramYields.f k a0 = some r) :
  Calls Tryd.prog 6 #[.string a0] w fun e w' => e = .returned (.bool r) ∧ Below w.heap.size w w' := by
 have hu28 := Tryd.underlying28
 have HB := qM (Below.refl w.heap.size w)
 have H : ((rookerylaw16_alive.f).bind fun t169 => (if t169 = true then ((lex_Scan.f k a0).bind fun bt170 => (if bt170.2.2 = 0 then ((gram_Parse.f bt170.1).bind fun bt175 => (if bt175.2.2.2.2.2.2 = 0 then (rookerylaw16_GramYields.l0 k bt170.1 ([] : List ByteArray) ([] : List Int) (⟨#[]⟩ : ByteArray) 0 bt175.1 bt175.2.1 bt175.2.2.1 bt175.2.2.2.1 bt175.2.2.2.2.1) else (if bt175.2.2.2.2.2.1 ≥ 0 then (if bt175.2.2.2.2.2.1 ≤ (bt170.1.length : Int) then (some (bt175.1 == 0)) else (some false)) else (some false)))) else (some true))) else (some false))) = some r := h
 clear h
 replace H := Option.bind_eq_some_iff.mp H
 obtain ⟨t169, A20, H⟩ := H
 replace H : (if t169 = true then ((lex_Scan.f k a0).bind fun bt170 => (if bt170.2.2 = 0 then ((gram_Parse.f bt170.1).bind fun bt175 => (if bt175.2.2.2.2.2.2 = 0 then (rookerylaw16_GramYields.l0 k bt170.1 ([] : List ByteArray) ([] : List Int) (⟨#[]⟩ : ByteArray) 0 bt175.1 bt175.2.1 bt175.2.2.1 bt175.2.2.2.1 bt175.2.2.2.2.1) else (if bt175.2.2.2.2.2.1 ≥ 0 then (if bt175.2.2.2.2.2.1 ≤ (bt170.1.length : Int) then (some (bt175.1 == 0)) else (some false)) else (some false)))) else (some true))) else (some false)) = some r := H
 have A2 := qM A20
 clear A20
 by_cases c3 : t169 = true
 ·
  subst c3
  have H1 : ((lex_Scan.f k a0).bind fun bt170 => (if bt170.2.2 = 0 then ((gram_Parse.f bt170.1).bind fun bt175 => (if bt175.2.2.2.2.2.2 = 0 then (rookerylaw16_GramYields.l0 k bt170.1 ([] : List ByteArray) ([] : List Int) (⟨#[]⟩ : ByteArray) 0 bt175.1 bt175.2.1 bt175.2.2.1 bt175.2.2.2.1 bt175.2.2.2.2.1) else (if bt175.2.2.2.2.2.1 ≥ 0 then (if bt175.2.2.2.2.2.1 ≤ (bt170.1.length : Int) then (some (bt175.1 == 0)) else (some false)) else (some false)))) else (some true))) = some r := by rw [if_pos rfl] at H; exact H
  clear H
  have H := H1
  clear H1
  replace H := Option.bind_eq_some_iff.mp H
  obtain ⟨⟨t170, t171, t172⟩, A40, H⟩ := H
  replace H : (if t172 = 0 then ((gram_Parse.f t170).bind fun bt175 => (if bt175.2.2.2.2.2.2 = 0 then (rookerylaw16_GramYields.l0 k t170 ([] : List ByteArray) ([] : List Int) (⟨#[]⟩ : ByteArray) 0 bt175.1 bt175.2.1 bt175.2.2.1 bt175.2.2.2.1 bt175.2.2.2.2.1) else (if bt175.2.2.2.2.2.1 ≥ 0 then (if bt175.2.2.2.2.2.1 ≤ (t170.length : Int) then (some (bt175.1 == 0)) else (some false)) else (some false)))) else (some true)) = some r := H
  have A4 := qM A40
  clear A40
  by_cases c5 : t172 = 0
  ·
   rw [if_pos c5] at H
   have c5b0 : (t172 == 0) = true := beq_iff_eq.mpr c5
   have c5b1 : (t172 != 0) = false := bne_eq_false_iff_eq.mpr c5
   clear c5
   replace H := Option.bind_eq_some_iff.mp H
   obtain ⟨⟨t175, t176, t177, t178, t181, t184, t185⟩, A60, H⟩ := H
   replace H : (if t185 = 0 then (rookerylaw16_GramYields.l0 k t170 ([] : List ByteArray) ([] : List Int) (⟨#[]⟩ : ByteArray) 0 t175 t176 t177 t178 t181) else (if t184 ≥ 0 then (if t184 ≤ (t170.length : Int) then (some (t175 == 0)) else (some false)) else (some false))) = some r := H
   have A6 := qM A60
   clear A60
   by_cases c7 : t185 = 0
   ·
    rw [if_pos c7] at H
    have c7b0 : (t185 == 0) = true := beq_iff_eq.mpr c7
    have c7b1 : (t185 != 0) = false := bne_eq_false_iff_eq.mpr c7
    clear c7
    have H' := qM H
    clear H
    go_enter Tryd.func6, Tryd.ntmps6
    go_wp2_with (first | (go_at_call 7; (with_reducible refine (rookerylaw16_alive.calls  true _ ?side1 A2.out).mono ?_); (case side1 => first | exact hG | exact hG.drewN _ | exact hG.drew | exact hG.below (qB HB.out) | (refine hG.below ?_; (repeat (first | (with_reducible exact Below.refl _ _) | (with_reducible refine pw_below_drewN ?_ _) | (with_reducible refine below_drew ?_) | (with_reducible refine below_alloc ?_ _))))); rintro e w8 ⟨rfl, hb⟩; have n0_ := qM (below_step (qB HB.out) hb); clear HB; have HB := n0_; clear n0_; (try clear hb); (try clear hb2); (try clear hk); (try clear hi)) | (go_at_call 14; (with_reducible refine (lex_Scan.calls k a0 t170 t171 t172 _ ?side1 A4.out).mono ?_); (case side1 => first | exact hG | exact hG.drewN _ | exact hG.drew | exact hG.below (qB HB.out) | (refine hG.below ?_; (repeat (first | (with_reducible exact Below.refl _ _) | (with_reducible refine pw_below_drewN ?_ _) | (with_reducible refine below_drew ?_) | (with_reducible refine below_alloc ?_ _))))); rintro e w9 ⟨v173, rfl, ho0, hb⟩; have n0_ := qM (Kd.N_lower (Kd.N_mono (ok' := fun k_ => True) (Kd.S_N (Kd.S_bound ho0)) (fun k_ hk_ => trivial)) (below_size (qB HB.out))); have n1_ := qM (below_step (qB HB.out) hb); clear HB; have HO174 := n0_; have HB := n1_; clear n0_ n1_; (try clear hb); (try clear hb2); (try clear hk); (try clear hi); (try clear ho0); obtain ⟨Ao10, co10, eo10⟩ := Kd.N_slice HO174.out; subst eo10) | (go_at_call 15; (with_reducible refine (gram_Parse.calls _ _ t170 t175 t176 t177 t178 t181 t184 t185 _ ?side1 ?side2 A6.out).mono ?_); (case side1 => repeat (first | exact (Kd.N_reads' HO174.out).2.2 | (with_reducible refine Kd.C_alloc ?_ _) | (with_reducible refine Kd.C_drewN ?_ _) | (with_reducible refine Kd.C_drew ?_))); (case side2 => exact (Kd.N_reads' HO174.out).2.1); rintro e w11 ⟨v179, v182, rfl, ho0, ho1, hb⟩; have n0_ := qM (Kd.N_mono (Kd.N_told (Kd.N_told (Kd.N_old (qN HO174.out) hb) (Kd.R_base ho0)) (Kd.R_base ho1)) (fun _ h_ => h_.1)); have n1_ := qM (Kd.R_lower ho0 (below_size (qB HB.out))); have n2_ := qM (Kd.N_lower (Kd.N_mono (ok' := fun k_ => some k_ ≠ (v179 : Value).ownBlock ∧ some k_ ≠ (.slice Ao10 t170.length co10 : Value).ownBlock) (Kd.R_N (Kd.R_bound ho1)) (fun k_ hk_ => ⟨hk_.1, (Kd.fresh' (Kd.N_lt (qN HO174.out)) k_ hk_.2.1)⟩)) (below_size (qB HB.out))); have n3_ := qM (below_step (qB HB.out) hb); clear HO174; clear HB; have HO174 := n0_; have HO180 := n1_; have HO183 := n2_; have HB := n3_; clear n0_ n1_ n2_ n3_; (try clear hb); (try clear hb2); (try clear hk); (try clear hi); (try clear ho0); (try clear ho1)) | ((with_reducible refine gate_dst (N := 6) rfl ?_); (try (refine gate_guard (by rfl) ?_; dsimp only)); refine box_event ?hg (N := 6) ?hd (cs := #[.int .i64 0, .string (⟨#[]⟩ : ByteArray), .int .i64 0, .slice none 0 0, .slice none 0 0]) (t := 28) ?hr ?_; (case hd => rfl); (case hg => rfl); (case hr => first | (go_simp; done) | (go_simp; rfl)); intro gb186 hg w12 hbox hb; have n0_ := qM (Kd.N_below (Kd.N_elderB (qN HO174.out) gb186 (Nat.le_of_eq hg.symm)) hb); have n1_ := qM (Kd.R_below (qR HO180.out) hb); have n2_ := qM (Kd.N_below (Kd.N_elderB (qN HO183.out) gb186 (Nat.le_of_eq hg.symm)) hb); have n3_ := qM (below_step (qB HB.out) hb); have n4_ := qM (hbox); have n5_ := qM ((by rw [hg]; exact (below_size (qB HB.out)) : w.heap.size ≤ gb186)); have n6_ := qM ((by rw [hg]; exact (below_size (qB HB.out)) : w.heap.size ≤ gb186)); clear HO174; clear HO180; clear HO183; clear HB; have HO174 := n0_; have HO180 := n1_; have HO183 := n2_; have HB := n3_; have BK186 := n4_; have GW186 := n5_; have GE186 := n6_; clear n0_ n1_ n2_ n3_ n4_ n5_ n6_; clear hb hbox hg; have hcz13_0 : w12.cell? ⟨gb186, 0, none⟩ = some (.int .i64 0) := (blk_cell BK186.out 0).trans rfl; have hcz13_1 : w12.cell? ⟨gb186, 1, none⟩ = some (.string (⟨#[]⟩ : ByteArray)) := (blk_cell BK186.out 1).trans rfl; have hcz13_2 : w12.cell? ⟨gb186, 2, none⟩ = some (.int .i64 0) := (blk_cell BK186.out 2).trans rfl; have hcz13_3 : w12.cell? ⟨gb186, 3, none⟩ = some (.slice none 0 0) := (blk_cell BK186.out 3).trans rfl; have hcz13_4 : w12.cell? ⟨gb186, 4, none⟩ = some (.slice none 0 0) := (blk_cell BK186.out 4).trans rfl; have hfz13_0 := blk_frozen BK186.out 0; have hfz13_1 := blk_frozen BK186.out 1; have hfz13_2 := blk_frozen BK186.out 2; have hfz13_3 := blk_frozen BK186.out 3; have hfz13_4 := blk_frozen BK186.out 4; obtain ⟨Ao14, co14, eo14⟩ := Kd.R_slice HO180.out; subst eo14; obtain ⟨Ao15, co15, eo15⟩ := Kd.N_slice HO183.out; subst eo15))
    repeat (go_quiet (first | (go_at_call 7; (with_reducible refine (rookerylaw16_alive.calls  true _ ?side1 A2.out).mono ?_); (case side1 => first | exact hG | exact hG.drewN _ | exact hG.drew | exact hG.below (qB HB.out) | (refine hG.below ?_; (repeat (first | (with_reducible exact Below.refl _ _) | (with_reducible refine pw_below_drewN ?_ _) | (with_reducible refine below_drew ?_) | (with_reducible refine below_alloc ?_ _))))); rintro e w8 ⟨rfl, hb⟩; have n0_ := qM (below_step (qB HB.out) hb); clear HB; have HB := n0_; clear n0_; (try clear hb); (try clear hb2); (try clear hk); (try clear hi)) | (go_at_call 14; (with_reducible refine (lex_Scan.calls k a0 t170 t171 t172 _ ?side1 A4.out).mono ?_); (case side1 => first | exact hG | exact hG.drewN _ | exact hG.drew | exact hG.below (qB HB.out) | (refine hG.below ?_; (repeat (first | (with_reducible exact Below.refl _ _) | (with_reducible refine pw_below_drewN ?_ _) | (with_reducible refine below_drew ?_) | (with_reducible refine below_alloc ?_ _))))); rintro e w9 ⟨v173, rfl, ho0, hb⟩; have n0_ := qM (Kd.N_lower (Kd.N_mono (ok' := fun k_ => True) (Kd.S_N (Kd.S_bound ho0)) (fun k_ hk_ => trivial)) (below_size (qB HB.out))); have n1_ := qM (below_step (qB HB.out) hb); clear HB; have HO174 := n0_; have HB := n1_; clear n0_ n1_; (try clear hb); (try clear hb2); (try clear hk); (try clear hi); (try clear ho0); obtain ⟨Ao10, co10, eo10⟩ := Kd.N_slice HO174.out; subst eo10) | (go_at_call 15; (with_reducible refine (gram_Parse.calls _ _ t170 t175 t176 t177 t178 t181 t184 t185 _ ?side1 ?side2 A6.out).mono ?_); (case side1 => repeat (first | exact (Kd.N_reads' HO174.out).2.2 | (with_reducible refine Kd.C_alloc ?_ _) | (with_reducible refine Kd.C_drewN ?_ _) | (with_reducible refine Kd.C_drew ?_))); (case side2 => exact (Kd.N_reads' HO174.out).2.1); rintro e w11 ⟨v179, v182, rfl, ho0, ho1, hb⟩; have n0_ := qM (Kd.N_mono (Kd.N_told (Kd.N_told (Kd.N_old (qN HO174.out) hb) (Kd.R_base ho0)) (Kd.R_base ho1)) (fun _ h_ => h_.1)); have n1_ := qM (Kd.R_lower ho0 (below_size (qB HB.out))); have n2_ := qM (Kd.N_lower (Kd.N_mono (ok' := fun k_ => some k_ ≠ (v179 : Value).ownBlock ∧ some k_ ≠ (.slice Ao10 t170.length co10 : Value).ownBlock) (Kd.R_N (Kd.R_bound ho1)) (fun k_ hk_ => ⟨hk_.1, (Kd.fresh' (Kd.N_lt (qN HO174.out)) k_ hk_.2.1)⟩)) (below_size (qB HB.out))); have n3_ := qM (below_step (qB HB.out) hb); clear HO174; clear HB; have HO174 := n0_; have HO180 := n1_; have HO183 := n2_; have HB := n3_; clear n0_ n1_ n2_ n3_; (try clear hb); (try clear hb2); (try clear hk); (try clear hi); (try clear ho0); (try clear ho1)) | ((with_reducible refine gate_dst (N := 6) rfl ?_); (try (refine gate_guard (by rfl) ?_; dsimp only)); refine box_event ?hg (N := 6) ?hd (cs := #[.int .i64 0, .string (⟨#[]⟩ : ByteArray), .int .i64 0, .slice none 0 0, .slice none 0 0]) (t := 28) ?hr ?_; (case hd => rfl); (case hg => rfl); (case hr => first | (go_simp; done) | (go_simp; rfl)); intro gb186 hg w12 hbox hb; have n0_ := qM (Kd.N_below (Kd.N_elderB (qN HO174.out) gb186 (Nat.le_of_eq hg.symm)) hb); have n1_ := qM (Kd.R_below (qR HO180.out) hb); have n2_ := qM (Kd.N_below (Kd.N_elderB (qN HO183.out) gb186 (Nat.le_of_eq hg.symm)) hb); have n3_ := qM (below_step (qB HB.out) hb); have n4_ := qM (hbox); have n5_ := qM ((by rw [hg]; exact (below_size (qB HB.out)) : w.heap.size ≤ gb186)); have n6_ := qM ((by rw [hg]; exact (below_size (qB HB.out)) : w.heap.size ≤ gb186)); clear HO174; clear HO180; clear HO183; clear HB; have HO174 := n0_; have HO180 := n1_; have HO183 := n2_; have HB := n3_; have BK186 := n4_; have GW186 := n5_; have GE186 := n6_; clear n0_ n1_ n2_ n3_ n4_ n5_ n6_; clear hb hbox hg; have hcz13_0 : w12.cell? ⟨gb186, 0, none⟩ = some (.int .i64 0) := (blk_cell BK186.out 0).trans rfl; have hcz13_1 : w12.cell? ⟨gb186, 1, none⟩ = some (.string (⟨#[]⟩ : ByteArray)) := (blk_cell BK186.out 1).trans rfl; have hcz13_2 : w12.cell? ⟨gb186, 2, none⟩ = some (.int .i64 0) := (blk_cell BK186.out 2).trans rfl; have hcz13_3 : w12.cell? ⟨gb186, 3, none⟩ = some (.slice none 0 0) := (blk_cell BK186.out 3).trans rfl; have hcz13_4 : w12.cell? ⟨gb186, 4, none⟩ = some (.slice none 0 0) := (blk_cell BK186.out 4).trans rfl; have hfz13_0 := blk_frozen BK186.out 0; have hfz13_1 := blk_frozen BK186.out 1; have hfz13_2 := blk_frozen BK186.out 2; have hfz13_3 := blk_frozen BK186.out 3; have hfz13_4 := blk_frozen BK186.out 4; obtain ⟨Ao14, co14, eo14⟩ := Kd.R_slice HO180.out; subst eo14; obtain ⟨Ao15, co15, eo15⟩ := Kd.N_slice HO183.out; subst eo15)); try go_wp2_with (first | (go_at_call 7; (with_reducible refine (rookerylaw16_alive.calls  true _ ?side1 A2.out).mono ?_); (case side1 => first | exact hG | exact hG.drewN _ | exact hG.drew | exact hG.below (qB HB.out) | (refine hG.below ?_; (repeat (first | (with_reducible exact Below.refl _ _) | (with_reducible refine pw_below_drewN ?_ _) | (with_reducible refine below_drew ?_) | (with_reducible refine below_alloc ?_ _))))); rintro e w8 ⟨rfl, hb⟩; have n0_ := qM (below_step (qB HB.out) hb); clear HB; have HB := n0_; clear n0_; (try clear hb); (try clear hb2); (try clear hk); (try clear hi)) | (go_at_call 14; (with_reducible refine (lex_Scan.calls k a0 t170 t171 t172 _ ?side1 A4.out).mono ?_); (case side1 => first | exact hG | exact hG.drewN _ | exact hG.drew | exact hG.below (qB HB.out) | (refine hG.below ?_; (repeat (first | (with_reducible exact Below.refl _ _) | (with_reducible refine pw_below_drewN ?_ _) | (with_reducible refine below_drew ?_) | (with_reducible refine below_alloc ?_ _))))); rintro e w9 ⟨v173, rfl, ho0, hb⟩; have n0_ := qM (Kd.N_lower (Kd.N_mono (ok' := fun k_ => True) (Kd.S_N (Kd.S_bound ho0)) (fun k_ hk_ => trivial)) (below_size (qB HB.out))); have n1_ := qM (below_step (qB HB.out) hb); clear HB; have HO174 := n0_; have HB := n1_; clear n0_ n1_; (try clear hb); (try clear hb2); (try clear hk); (try clear hi); (try clear ho0); obtain ⟨Ao10, co10, eo10⟩ := Kd.N_slice HO174.out; subst eo10) | (go_at_call 15; (with_reducible refine (gram_Parse.calls _ _ t170 t175 t176 t177 t178 t181 t184 t185 _ ?side1 ?side2 A6.out).mono ?_); (case side1 => repeat (first | exact (Kd.N_reads' HO174.out).2.2 | (with_reducible refine Kd.C_alloc ?_ _) | (with_reducible refine Kd.C_drewN ?_ _) | (with_reducible refine Kd.C_drew ?_))); (case side2 => exact (Kd.N_reads' HO174.out).2.1); rintro e w11 ⟨v179, v182, rfl, ho0, ho1, hb⟩; have n0_ := qM (Kd.N_mono (Kd.N_told (Kd.N_told (Kd.N_old (qN HO174.out) hb) (Kd.R_base ho0)) (Kd.R_base ho1)) (fun _ h_ => h_.1)); have n1_ := qM (Kd.R_lower ho0 (below_size (qB HB.out))); have n2_ := qM (Kd.N_lower (Kd.N_mono (ok' := fun k_ => some k_ ≠ (v179 : Value).ownBlock ∧ some k_ ≠ (.slice Ao10 t170.length co10 : Value).ownBlock) (Kd.R_N (Kd.R_bound ho1)) (fun k_ hk_ => ⟨hk_.1, (Kd.fresh' (Kd.N_lt (qN HO174.out)) k_ hk_.2.1)⟩)) (below_size (qB HB.out))); have n3_ := qM (below_step (qB HB.out) hb); clear HO174; clear HB; have HO174 := n0_; have HO180 := n1_; have HO183 := n2_; have HB := n3_; clear n0_ n1_ n2_ n3_; (try clear hb); (try clear hb2); (try clear hk); (try clear hi); (try clear ho0); (try clear ho1)) | ((with_reducible refine gate_dst (N := 6) rfl ?_); (try (refine gate_guard (by rfl) ?_; dsimp only)); refine box_event ?hg (N := 6) ?hd (cs := #[.int .i64 0, .string (⟨#[]⟩ : ByteArray), .int .i64 0, .slice none 0 0, .slice none 0 0]) (t := 28) ?hr ?_; (case hd => rfl); (case hg => rfl); (case hr => first | (go_simp; done) | (go_simp; rfl)); intro gb186 hg w12 hbox hb; have n0_ := qM (Kd.N_below (Kd.N_elderB (qN HO174.out) gb186 (Nat.le_of_eq hg.symm)) hb); have n1_ := qM (Kd.R_below (qR HO180.out) hb); have n2_ := qM (Kd.N_below (Kd.N_elderB (qN HO183.out) gb186 (Nat.le_of_eq hg.symm)) hb); have n3_ := qM (below_step (qB HB.out) hb); have n4_ := qM (hbox); have n5_ := qM ((by rw [hg]; exact (below_size (qB HB.out)) : w.heap.size ≤ gb186)); have n6_ := qM ((by rw [hg]; exact (below_size (qB HB.out)) : w.heap.size ≤ gb186)); clear HO174; clear HO180; clear HO183; clear HB; have HO174 := n0_; have HO180 := n1_; have HO183 := n2_; have HB := n3_; have BK186 := n4_; have GW186 := n5_; have GE186 := n6_; clear n0_ n1_ n2_ n3_ n4_ n5_ n6_; clear hb hbox hg; have hcz13_0 : w12.cell? ⟨gb186, 0, none⟩ = some (.int .i64 0) := (blk_cell BK186.out 0).trans rfl; have hcz13_1 : w12.cell? ⟨gb186, 1, none⟩ = some (.string (⟨#[]⟩ : ByteArray)) := (blk_cell BK186.out 1).trans rfl; have hcz13_2 : w12.cell? ⟨gb186, 2, none⟩ = some (.int .i64 0) := (blk_cell BK186.out 2).trans rfl; have hcz13_3 : w12.cell? ⟨gb186, 3, none⟩ = some (.slice none 0 0) := (blk_cell BK186.out 3).trans rfl; have hcz13_4 : w12.cell? ⟨gb186, 4, none⟩ = some (.slice none 0 0) := (blk_cell BK186.out 4).trans rfl; have hfz13_0 := blk_frozen BK186.out 0; have hfz13_1 := blk_frozen BK186.out 1; have hfz13_2 := blk_frozen BK186.out 2; have hfz13_3 := blk_frozen BK186.out 3; have hfz13_4 := blk_frozen BK186.out 4; obtain ⟨Ao14, co14, eo14⟩ := Kd.R_slice HO180.out; subst eo14; obtain ⟨Ao15, co15, eo15⟩ := Kd.N_slice HO183.out; subst eo15)))
    go_loopg [8, 9, 10, 11] k (fun kq v8 v9 v10 v11 w' => ∃ (x8_1 : List ByteArray) (x9_1 : List Int) (x10_1 : ByteArray) (x11_1 : Int), v10 = .string x10_1 ∧ v11 = .int .i64 x11_1 ∧ Aside0 (rookerylaw16_GramYields.l0 kq t170 x8_1 x9_1 x10_1 x11_1 t175 t176 t177 t178 t181 = some r) ∧ Aside0 (kq ≤ k) ∧ Aside0 (Kd.N k44 44 w' w.heap.size (fun k_ => some k_ ≠ (v8 : Value).ownBlock ∧ some k_ ≠ (v9 : Value).ownBlock ∧ some k_ ≠ ((.slice Ao14 t178.length co14) : Value).ownBlock ∧ some k_ ≠ ((.slice Ao15 t181.length co15) : Value).ownBlock ∧ k_ ≠ gb186) (.slice Ao10 t170.length co10) t170) ∧ Aside0 (Kd.R Kd.string 9 w' w.heap.size (fun _ => True) v8 x8_1) ∧ Aside0 (Kd.R (Kd.int .i64) 2 w' w.heap.size (fun _ => True) v9 x9_1) ∧ Aside0 (Kd.R (Kd.int .u8) 5 w' w.heap.size (fun _ => True) (.slice Ao14 t178.length co14) t178) ∧ Aside0 (Kd.N k28 28 w' w.heap.size (fun k_ => some k_ ≠ ((.slice Ao10 t170.length co10) : Value).ownBlock ∧ some k_ ≠ (v8 : Value).ownBlock ∧ some k_ ≠ (v9 : Value).ownBlock ∧ some k_ ≠ ((.slice Ao14 t178.length co14) : Value).ownBlock ∧ k_ ≠ gb186) (.slice Ao15 t181.length co15) t181) ∧ Aside0 (w'.heap[gb186]? = some (.cells #[.int .i64 t175, .string t176, .int .i64 t177, (.slice Ao14 t178.length co14), (.slice Ao15 t181.length co15)] 28 (0, 0))) ∧ Aside0 (Below w.heap.size w w'))
    case atStart => exact ⟨(([] : List ByteArray)), (([] : List Int)), ((⟨#[]⟩ : ByteArray)), (0), qS, qS, H', ⟨Nat.le_refl _⟩, ⟨by (with_reducible repeat (first | apply Kd.N_alloc | apply Kd.N_drewN | apply Kd.N_drew)); exact Kd.N_mono (Kd.N_far (p := ⟨gb186, 4, none⟩) (Kd.N_far (p := ⟨gb186, 3, none⟩) (Kd.N_far (p := ⟨gb186, 2, none⟩) (Kd.N_far (p := ⟨gb186, 1, none⟩) (Kd.N_far (p := ⟨gb186, 0, none⟩) (Kd.N_mono HO174.out (fun k_ hk => (⟨hk, hk.2⟩ : _ ∧ k_ ≠ gb186))) (fun _ hk => hk.2) (.int .i64 t175)) (fun _ hk => hk.2) (.string t176)) (fun _ hk => hk.2) (.int .i64 t177)) (fun _ hk => hk.2) (.slice Ao14 t178.length co14)) (fun _ hk => hk.2) (.slice Ao15 t181.length co15)) (fun _ hk => ⟨(by simp [Value.ownBlock]), ⟨(by simp [Value.ownBlock]), ⟨hk.1.1.1.2, ⟨hk.1.1.2, hk.1.2⟩⟩⟩⟩)⟩, ⟨by first | exact Kd.R_nil _ _ _ _ _ | exact Kd.N_nil _ _ _ _ _ | exact Kd.V_nil _ _ _ _ _ | exact Kd.Q_nil _ _ _ _ _ | exact Kd.S_nil _ _ _ _ _⟩, ⟨by first | exact Kd.R_nil _ _ _ _ _ | exact Kd.N_nil _ _ _ _ _ | exact Kd.V_nil _ _ _ _ _ | exact Kd.Q_nil _ _ _ _ _ | exact Kd.S_nil _ _ _ _ _⟩, ⟨by (with_reducible repeat (first | apply Kd.R_alloc | apply Kd.R_drewN | apply Kd.R_drew)); exact Kd.R_mono (Kd.R_far (p := ⟨gb186, 4, none⟩) (Kd.R_far (p := ⟨gb186, 3, none⟩) (Kd.R_far (p := ⟨gb186, 2, none⟩) (Kd.R_far (p := ⟨gb186, 1, none⟩) (Kd.R_far (p := ⟨gb186, 0, none⟩) (Kd.R_types HO180.out BK186.out (by decide)) (fun _ hk => hk.2) (.int .i64 t175)) (fun _ hk => hk.2) (.string t176)) (fun _ hk => hk.2) (.int .i64 t177)) (fun _ hk => hk.2) (.slice Ao14 t178.length co14)) (fun _ hk => hk.2) (.slice Ao15 t181.length co15)) (fun _ hk => trivial)⟩, ⟨by (with_reducible repeat (first | apply Kd.N_alloc | apply Kd.N_drewN | apply Kd.N_drew)); exact Kd.N_mono (Kd.N_far (p := ⟨gb186, 4, none⟩) (Kd.N_far (p := ⟨gb186, 3, none⟩) (Kd.N_far (p := ⟨gb186, 2, none⟩) (Kd.N_far (p := ⟨gb186, 1, none⟩) (Kd.N_far (p := ⟨gb186, 0, none⟩) (Kd.N_mono HO183.out (fun k_ hk => (⟨hk, hk.2⟩ : _ ∧ k_ ≠ gb186))) (fun _ hk => hk.2) (.int .i64 t175)) (fun _ hk => hk.2) (.string t176)) (fun _ hk => hk.2) (.int .i64 t177)) (fun _ hk => hk.2) (.slice Ao14 t178.length co14)) (fun _ hk => hk.2) (.slice Ao15 t181.length co15)) (fun _ hk => ⟨hk.1.1.2, ⟨(by simp [Value.ownBlock]), ⟨(by simp [Value.ownBlock]), ⟨hk.1.1.1, hk.1.2⟩⟩⟩⟩)⟩, ⟨by (with_reducible repeat (first | refine blk_drewN ?_ _ | refine blk_drew ?_ | refine blk_alloc ?_ _)); refine blk_put (cs := #[.int .i64 t175, .string t176, .int .i64 t177, .slice Ao14 t178.length co14, .slice none 0 0]) ?_ 4 _ rfl; (with_reducible repeat (first | refine blk_drewN ?_ _ | refine blk_drew ?_ | refine blk_alloc ?_ _)); refine blk_put (cs := #[.int .i64 t175, .string t176, .int .i64 t177, .slice none 0 0, .slice none 0 0]) ?_ 3 _ rfl; (with_reducible repeat (first | refine blk_drewN ?_ _ | refine blk_drew ?_ | refine blk_alloc ?_ _)); refine blk_put (cs := #[.int .i64 t175, .string t176, .int .i64 0, .slice none 0 0, .slice none 0 0]) ?_ 2 _ rfl; (with_reducible repeat (first | refine blk_drewN ?_ _ | refine blk_drew ?_ | refine blk_alloc ?_ _)); refine blk_put (cs := #[.int .i64 t175, .string (⟨#[]⟩ : ByteArray), .int .i64 0, .slice none 0 0, .slice none 0 0]) ?_ 1 _ rfl; (with_reducible repeat (first | refine blk_drewN ?_ _ | refine blk_drew ?_ | refine blk_alloc ?_ _)); refine blk_put (cs := #[.int .i64 0, .string (⟨#[]⟩ : ByteArray), .int .i64 0, .slice none 0 0, .slice none 0 0]) ?_ 0 _ rfl; (with_reducible repeat (first | refine blk_drewN ?_ _ | refine blk_drew ?_ | refine blk_alloc ?_ _)); exact BK186.out⟩, ⟨by repeat (first | (with_reducible first | exact HB.out | apply below_alloc | apply pw_below_drewN | apply below_drew1 | refine below_set ?_ GE186.out) | exact HB.out)⟩⟩
    case round =>
     clear H'; try clear p2; try clear c3; try clear c5; try clear c5b0; try clear c5b1; try clear c6; try clear c7; try clear c7b0; try clear c7b1; try clear hcz13_0; try clear hcz13_1; try clear hcz13_2; try clear hcz13_3; try clear hcz13_4; try clear hfz13_0; try clear hfz13_1; try clear hfz13_2; try clear hfz13_3; try clear hfz13_4
     obtain ⟨x8_1, x9_1, x10_1, x11_1, rfl, rfl, HA, HK1, HO_3, HO_8, HO_9, HO_187003, HO_187004, BK186, HB⟩ := hrel
     cases gk with
     | zero => exact absurd HA.out (by simp [rookerylaw16_GramYields.l0])
     | succ k1 =>
      have H := HA.out
      clear HA
      simp only [rookerylaw16_GramYields.l0] at H
      by_cases c16 : x11_1 < (t170.length : Int)
      ·
       rw [if_pos c16] at H
       have c16b0 : decide (x11_1 < (t170.length : Int)) = true := decide_eq_true c16
       clear c16
       have HC17 := qM H
       clear H
       go_upto_region 15 with (fail)
       repeat (go_quiet (fail); go_upto_region 15 with (fail))
       go_cut [64] (fun v64 wc => ∃ (kq : Nat) (x64_16 : Bool), v64 = .bool x64_16 ∧ Aside0 (rookerylaw16_GramYields.j1 kq t170 x8_1 x9_1 x10_1 x11_1 x64_16 t175 t176 t177 t178 t181 = some r) ∧ Aside0 (kq ≤ k1) ∧ Aside0 (Kd.N k44 44 wc w.heap.size (fun k_ => some k_ ≠ (u8 : Value).ownBlock ∧ some k_ ≠ (u9 : Value).ownBlock ∧ some k_ ≠ ((.slice Ao14 t178.length co14) : Value).ownBlock ∧ some k_ ≠ ((.slice Ao15 t181.length co15) : Value).ownBlock ∧ k_ ≠ gb186) (.slice Ao10 t170.length co10) t170) ∧ Aside0 (Kd.R Kd.string 9 wc w.heap.size (fun _ => True) u8 x8_1) ∧ Aside0 (Kd.R (Kd.int .i64) 2 wc w.heap.size (fun _ => True) u9 x9_1) ∧ Aside0 (Kd.R (Kd.int .u8) 5 wc w.heap.size (fun _ => True) (.slice Ao14 t178.length co14) t178) ∧ Aside0 (Kd.N k28 28 wc w.heap.size (fun k_ => some k_ ≠ ((.slice Ao10 t170.length co10) : Value).ownBlock ∧ some k_ ≠ (u8 : Value).ownBlock ∧ some k_ ≠ (u9 : Value).ownBlock ∧ some k_ ≠ ((.slice Ao14 t178.length co14) : Value).ownBlock ∧ k_ ≠ gb186) (.slice Ao15 t181.length co15) t181) ∧ Aside0 (wc.heap[gb186]? = some (.cells #[.int .i64 t175, .string t176, .int .i64 t177, (.slice Ao14 t178.length co14), (.slice Ao15 t181.length co15)] 28 (0, 0))) ∧ Aside0 (Below w.heap.size w wc))
       case first =>
        have H := HC17.out
        clear HC17
        by_cases c18 : 0 ≤ x11_1
        ·
         rw [if_pos c18] at H
         have c18b0 : decide (0 ≤ x11_1) = true := decide_eq_true c18
         clear c18
         (first | rw [c18b0] | (simp only [i64_w, i32_w]; rw [c18b0]) | skip)
         by_cases c19 : ((rd_T44 t170 x11_1).f0) = 2
         ·
          rw [if_pos c19] at H
          have c19b0 : (((rd_T44 t170 x11_1).f0) == 2) = true := beq_iff_eq.mpr c19
          have c19b1 : (((rd_T44 t170 x11_1).f0) != 2) = false := bne_eq_false_iff_eq.mpr c19
          clear c19
          have H' := qM H
          clear H
          have p187 : 0 ≤ (x11_1 : Int) := qD
          have q187 : x11_1 < (t170.length : Int) := qD
          obtain ⟨ad187, A187_3, c187_3, e187, hx187_0, hx187_1, hx187_2, hx187_3, hx187_4, hl187_3, hi187_3⟩ := at_T44 (Kd.N_reads' HO_3.out).2.2 x11_1 p187 q187
          cases e187
          obtain ⟨ce187, hce187, hMe187, hcc187⟩ := Kd.N_get HO_3.out z44 x11_1 p187 (by first | exact q187 | exact qD | (have e_ := (Kd.N_reads' HO_3.out).1; omega))
          obtain ⟨ua187_3, uc187_3, rfl, ul187_3, ge187_3⟩ := k44_openF hMe187
          have hv187_3 := hcc187 3 _ rfl
          rw [add_field _ _ 3 (by omega)] at hv187_3
          replace hv187_3 := qI (hv187_3.symm.trans hx187_3)
          injection hv187_3 with hva_ hvn_ hvc_
          rw [hva_] at ge187_3
          rw [hvc_] at ul187_3
          have HL187_3 := qM (show Kd.V (Kd.int .u8) 5 _ w.heap.size _ _ ((rd_T44 t170 x11_1).f3) from Kd.V_mk ul187_3 ge187_3)
          clear hva_ hvn_ hvc_ ge187_3 ul187_3; clear hcc187 hce187
          have HR187_3 := qM hi187_3
          have HC187_3 := qM hl187_3
          clear hi187_3 hl187_3
          replace p187 := eq_true p187
          replace q187 := eq_true q187
          go_wp2
          repeat (go_quiet (fail); try go_wp2)
          go_meet
          case rel => exact ⟨_, (true), qS, H', ⟨by have := HK1.out; first | omega | exact Nat.le_refl _⟩, ⟨qN HO_3.out⟩, ⟨qR HO_8.out⟩, ⟨qR HO_9.out⟩, ⟨qR HO_187003.out⟩, ⟨qN HO_187004.out⟩, ⟨qK BK186.out⟩, ⟨by repeat (first | (with_reducible first | exact HB.out | apply below_alloc | apply pw_below_drewN | apply below_drew1 | refine below_set ?_ GE186.out) | exact HB.out)⟩⟩
         ·
          rw [if_neg c19] at H
          have c19b0 : (((rd_T44 t170 x11_1).f0) == 2) = false := beq_eq_false_iff_ne.mpr c19
          have c19b1 : (((rd_T44 t170 x11_1).f0) != 2) = true := bne_iff_ne.mpr c19
          have H' := qM H
          clear H
          have p187 : 0 ≤ (x11_1 : Int) := qD
          have q187 : x11_1 < (t170.length : Int) := qD
          obtain ⟨ad187, A187_3, c187_3, e187, hx187_0, hx187_1, hx187_2, hx187_3, hx187_4, hl187_3, hi187_3⟩ := at_T44 (Kd.N_reads' HO_3.out).2.2 x11_1 p187 q187
          cases e187
          obtain ⟨ce187, hce187, hMe187, hcc187⟩ := Kd.N_get HO_3.out z44 x11_1 p187 (by first | exact q187 | exact qD | (have e_ := (Kd.N_reads' HO_3.out).1; omega))
          obtain ⟨ua187_3, uc187_3, rfl, ul187_3, ge187_3⟩ := k44_openF hMe187
          have hv187_3 := hcc187 3 _ rfl
          rw [add_field _ _ 3 (by omega)] at hv187_3
          replace hv187_3 := qI (hv187_3.symm.trans hx187_3)
          injection hv187_3 with hva_ hvn_ hvc_
          rw [hva_] at ge187_3
          rw [hvc_] at ul187_3
          have HL187_3 := qM (show Kd.V (Kd.int .u8) 5 _ w.heap.size _ _ ((rd_T44 t170 x11_1).f3) from Kd.V_mk ul187_3 ge187_3)
          clear hva_ hvn_ hvc_ ge187_3 ul187_3; clear hcc187 hce187
          have HR187_3 := qM hi187_3
          have HC187_3 := qM hl187_3
          clear hi187_3 hl187_3
          replace p187 := eq_true p187
          replace q187 := eq_true q187
          have p188 : 0 ≤ (x11_1 : Int) := qD
          have q188 : x11_1 < (t170.length : Int) := qD
          obtain ⟨ad188, A188_3, c188_3, e188, hx188_0, hx188_1, hx188_2, hx188_3, hx188_4, hl188_3, hi188_3⟩ := at_T44 (Kd.N_reads' HO_3.out).2.2 x11_1 p188 q188
          obtain rfl : ad187 = ad188 := (by injection e188)
          obtain ⟨ce188, hce188, hMe188, hcc188⟩ := Kd.N_get HO_3.out z44 x11_1 p188 (by first | exact q188 | exact qD | (have e_ := (Kd.N_reads' HO_3.out).1; omega))
          obtain ⟨ua188_3, uc188_3, rfl, ul188_3, ge188_3⟩ := k44_openF hMe188
          have hv188_3 := hcc188 3 _ rfl
          rw [add_field _ _ 3 (by omega)] at hv188_3
          replace hv188_3 := qI (hv188_3.symm.trans hx188_3)
          injection hv188_3 with hva_ hvn_ hvc_
          rw [hva_] at ge188_3
          rw [hvc_] at ul188_3
          have HL188_3 := qM (show Kd.V (Kd.int .u8) 5 _ w.heap.size _ _ ((rd_T44 t170 x11_1).f3) from Kd.V_mk ul188_3 ge188_3)
          clear hva_ hvn_ hvc_ ge188_3 ul188_3; clear hcc188 hce188
          have HR188_3 := qM hi188_3
          have HC188_3 := qM hl188_3
          clear hi188_3 hl188_3
          replace p188 := eq_true p188
          replace q188 := eq_true q188
          have ea_ := qI (hx187_3.symm.trans hx188_3)
          injection ea_ with ea_ en_ ec_
          subst ea_
          subst ec_
          clear en_
          go_wp2
          repeat (go_quiet (fail); try go_wp2)
          go_meet
          case rel => exact ⟨_, ((((rd_T44 t170 x11_1).f0) == 3)), qS, H', ⟨by have := HK1.out; first | omega | exact Nat.le_refl _⟩, ⟨qN HO_3.out⟩, ⟨qR HO_8.out⟩, ⟨qR HO_9.out⟩, ⟨qR HO_187003.out⟩, ⟨qN HO_187004.out⟩, ⟨qK BK186.out⟩, ⟨by repeat (first | (with_reducible first | exact HB.out | apply below_alloc | apply pw_below_drewN | apply below_drew1 | refine below_set ?_ GE186.out) | exact HB.out)⟩⟩
        ·
         rw [if_neg c18] at H
         exact absurd H (by simp)
       case rest =>
        clear HC17; try clear c1; try clear p1; try clear q1; try clear hx1; try clear p2; try clear c3; try clear c5; try clear c5b0; try clear c5b1; try clear c6; try clear c7; try clear c7b0; try clear c7b1; try clear c16; try clear c16b0; try clear c18; try clear c18b0; try clear p18; try clear q18; try clear hx18; try clear c19; try clear c19b0; try clear c19b1; try clear hcz13_0; try clear hcz13_1; try clear hcz13_2; try clear hcz13_3; try clear hcz13_4; try clear hfz13_0; try clear hfz13_1; try clear hfz13_2; try clear hfz13_3; try clear hfz13_4; try clear hx187_0; try clear hx187_1; try clear hx187_2; try clear hx187_3; try clear hx187_4; try clear hx188_0; try clear hx188_1; try clear hx188_2; try clear hx188_3; try clear hx188_4; try clear p187; try clear p188; try clear p2; try clear q187; try clear q188
        obtain ⟨kq, x64_16, rfl, HA, HJ16, HO_3, HO_8, HO_9, HO_187003, HO_187004, BK186, HB⟩ := hcut
        cases kq with
        | zero => exact absurd HA.out (by simp [rookerylaw16_GramYields.j1])
        | succ kj16 =>
         have H := HA.out
         clear HA
         simp only [rookerylaw16_GramYields.j1] at H
         by_cases c20 : x64_16 = true
         ·
          subst c20
          have H1 : (if 0 ≤ x11_1 then (if x11_1 < (t170.length : Int) then (if x8_1.length < 8796093022208 then ((some (x8_1 ++ [(rd_T44 t170 x11_1).f1] : List ByteArray)).bind fun y190 => (if ((rd_T44 t170 x11_1).f0) = 1 then (if x9_1.length < 17592186044416 then (if x10_1.size + (strOfNums ((rd_T44 t170 x11_1).f3)).size ≤ 9223372036854775807 then (rookerylaw16_GramYields.l0 kj16 t170 y190 (x9_1 ++ [(rd_T44 t170 x11_1).f2]) (x10_1 ++ (strOfNums ((rd_T44 t170 x11_1).f3))) (wrap64 (x11_1 + 1)) t175 t176 t177 t178 t181) else (none)) else (none)) else (if x10_1.size + (strOfNums ((rd_T44 t170 x11_1).f3)).size ≤ 9223372036854775807 then (rookerylaw16_GramYields.l0 kj16 t170 y190 x9_1 (x10_1 ++ (strOfNums ((rd_T44 t170 x11_1).f3))) (wrap64 (x11_1 + 1)) t175 t176 t177 t178 t181) else (none)))) else (none)) else (none)) else (none)) = some r := by rw [if_pos rfl] at H; exact H
          clear H
          have H := H1
          clear H1
          by_cases c21 : 0 ≤ x11_1
          ·
           rw [if_pos c21] at H
           have c21b0 : decide (0 ≤ x11_1) = true := decide_eq_true c21
           clear c21
           by_cases c22 : x11_1 < (t170.length : Int)
           ·
            rw [if_pos c22] at H
            have c22b0 : decide (x11_1 < (t170.length : Int)) = true := decide_eq_true c22
            clear c22
            by_cases c23 : x8_1.length < 8796093022208
            ·
             rw [if_pos c23] at H
             have LMc23 := qM c23
             clear c23
             obtain ⟨y190, hy190⟩ : ∃ y_ : List ByteArray, y_ = (x8_1 ++ [(rd_T44 t170 x11_1).f1]) := ⟨_, rfl⟩
             replace H : (if ((rd_T44 t170 x11_1).f0) = 1 then (if x9_1.length < 17592186044416 then (if x10_1.size + (strOfNums ((rd_T44 t170 x11_1).f3)).size ≤ 9223372036854775807 then (rookerylaw16_GramYields.l0 kj16 t170 y190 (x9_1 ++ [(rd_T44 t170 x11_1).f2]) (x10_1 ++ (strOfNums ((rd_T44 t170 x11_1).f3))) (wrap64 (x11_1 + 1)) t175 t176 t177 t178 t181) else (none)) else (none)) else (if x10_1.size + (strOfNums ((rd_T44 t170 x11_1).f3)).size ≤ 9223372036854775807 then (rookerylaw16_GramYields.l0 kj16 t170 y190 x9_1 (x10_1 ++ (strOfNums ((rd_T44 t170 x11_1).f3))) (wrap64 (x11_1 + 1)) t175 t176 t177 t178 t181) else (none))) = some r := by first | (rw [hy190]; with_reducible exact H) | (have H2_ := (Option.bind_some _ _).symm.trans H; rw [hy190]; with_reducible exact H2_) | (have H2_ := (Option.bind_some _ _).symm.trans H; with_reducible exact H2_) | with_reducible exact H | (rw [hy190]; exact H) | exact H
             have Ny190 := qM hy190
             clear hy190
             by_cases c24 : ((rd_T44 t170 x11_1).f0) = 1
             ·
              rw [if_pos c24] at H
              have c24b0 : (((rd_T44 t170 x11_1).f0) == 1) = true := beq_iff_eq.mpr c24
              have c24b1 : (((rd_T44 t170 x11_1).f0) != 1) = false := bne_eq_false_iff_eq.mpr c24
              clear c24
              by_cases c25 : x9_1.length < 17592186044416
              ·
               rw [if_pos c25] at H
               have LMc25 := qM c25
               clear c25
               obtain ⟨y195, hy195⟩ : ∃ y_ : List Int, y_ = (x9_1 ++ [(rd_T44 t170 x11_1).f2]) := ⟨_, rfl⟩
               replace H : (if x10_1.size + (strOfNums ((rd_T44 t170 x11_1).f3)).size ≤ 9223372036854775807 then (rookerylaw16_GramYields.l0 kj16 t170 y190 y195 (x10_1 ++ (strOfNums ((rd_T44 t170 x11_1).f3))) (wrap64 (x11_1 + 1)) t175 t176 t177 t178 t181) else (none)) = some r := by first | (rw [hy195]; with_reducible exact H) | (have H2_ := (Option.bind_some _ _).symm.trans H; rw [hy195]; with_reducible exact H2_) | (have H2_ := (Option.bind_some _ _).symm.trans H; with_reducible exact H2_) | with_reducible exact H | (rw [hy195]; exact H) | exact H
               have Ny195 := qM hy195
               clear hy195
               by_cases c26 : x10_1.size + (strOfNums ((rd_T44 t170 x11_1).f3)).size ≤ 9223372036854775807
               ·
                rw [if_pos c26] at H
                have c26b0 := eq_true c26
                have c26b1 : decide (x10_1.size + (strOfNums ((rd_T44 t170 x11_1).f3)).size ≤ 9223372036854775807) = true := decide_eq_true c26
                try have c26b2 : (9223372036854775807 < x10_1.size + (strOfNums ((rd_T44 t170 x11_1).f3)).size) = False := eq_false (Nat.not_lt.2 c26)
                have H' := qM H
                clear H
                have p189 : 0 ≤ (x11_1 : Int) := qD
                have q189 : x11_1 < (t170.length : Int) := qD
                obtain ⟨ad189, A189_3, c189_3, e189, hx189_0, hx189_1, hx189_2, hx189_3, hx189_4, hl189_3, hi189_3⟩ := at_T44 (Kd.N_reads' HO_3.out).2.2 x11_1 p189 q189
                cases e189
                obtain ⟨ce189, hce189, hMe189, hcc189⟩ := Kd.N_get HO_3.out z44 x11_1 p189 (by first | exact q189 | exact qD | (have e_ := (Kd.N_reads' HO_3.out).1; omega))
                obtain ⟨ua189_3, uc189_3, rfl, ul189_3, ge189_3⟩ := k44_openF hMe189
                have hv189_3 := hcc189 3 _ rfl
                rw [add_field _ _ 3 (by omega)] at hv189_3
                replace hv189_3 := qI (hv189_3.symm.trans hx189_3)
                injection hv189_3 with hva_ hvn_ hvc_
                rw [hva_] at ge189_3
                rw [hvc_] at ul189_3
                have HL189_3 := qM (show Kd.V (Kd.int .u8) 5 _ w.heap.size _ _ ((rd_T44 t170 x11_1).f3) from Kd.V_mk ul189_3 ge189_3)
                clear hva_ hvn_ hvc_ ge189_3 ul189_3; clear hcc189 hce189
                have HR189_3 := qM hi189_3
                have HC189_3 := qM hl189_3
                clear hi189_3 hl189_3
                replace p189 := eq_true p189
                replace q189 := eq_true q189
                go_wp2_with (first | ((with_reducible refine gate_builtin (b := .append) (xs := #[.tmp 65, .tmp 71]) rfl ?_); (try (refine gate_guard (by rfl) ?_; dsimp only)); at_builtin; refine Kd.R_append Kd.string (w0 := w) w.heap.size rfl (.tmp 65) (.tmp 71) 23 9 (.string ⟨#[]⟩) 16 rfl Tryd.underlying23 info9 rfl (by decide) (by omega) u8 x8_1 ((rd_T44 t170 x11_1).f1) [.string ((rd_T44 t170 x11_1).f1)] (fun _ => True) (fun _ => False) rfl rfl ?aP (fun _ hk => hk.elim) ?aF ?aO ?aB ?aS ?aL ?_; (case aP => exact rfl); (case aB => exact (by repeat (first | (with_reducible first | exact HB.out | apply below_alloc | apply pw_below_drewN | apply below_drew1 | refine below_set ?_ GE186.out) | exact HB.out))); (case aF => exact (fun _ _ => trivial)); (case aO => exact (qR HO_8.out)); (case aS => exact (below_size (by repeat (first | (with_reducible first | exact HB.out | apply below_alloc | apply pw_below_drewN | apply below_drew1 | refine below_set ?_ GE186.out) | exact HB.out)))); (case aL => have := LMc23.out; omega); intro v191 w27 ho hb hg hat; rw [← Ny190.out] at ho; have n0_ := qM (Kd.N_afterv (ok := (fun k_ => some k_ ≠ (u9 : Value).ownBlock ∧ some k_ ≠ (.slice Ao14 t178.length co14 : Value).ownBlock ∧ some k_ ≠ (.slice Ao15 t181.length co15 : Value).ownBlock ∧ k_ ≠ gb186)) (by (with_reducible repeat (first | apply Kd.N_alloc | apply Kd.N_drewN | apply Kd.N_drew)); exact Kd.N_mono HO_3.out (fun _ hk => ⟨⟨hk.2.1, ⟨hk.2.2.1, ⟨hk.2.2.2.1, hk.2.2.2.2⟩⟩⟩, hk.1⟩)) hg hat); have n1_ := qM (Kd.R_over' (qR HO_9.out) (Kd.R_typed (qR HO_8.out)) (by decide) hg); have n2_ := qM (Kd.R_over' (qR HO_187003.out) (Kd.R_typed (qR HO_8.out)) (by decide) hg); have n3_ := qM (Kd.N_afterv (ok := (fun k_ => some k_ ≠ (.slice (some ad189) t170.length co10 : Value).ownBlock ∧ some k_ ≠ (u9 : Value).ownBlock ∧ some k_ ≠ (.slice Ao14 t178.length co14 : Value).ownBlock ∧ k_ ≠ gb186)) (by (with_reducible repeat (first | apply Kd.N_alloc | apply Kd.N_drewN | apply Kd.N_drew)); exact Kd.N_mono HO_187004.out (fun _ hk => ⟨⟨hk.1, ⟨hk.2.2.1, ⟨hk.2.2.2.1, hk.2.2.2.2⟩⟩⟩, hk.2.1⟩)) hg hat); have n4_ := qM (blk_grown (g := gb186) (o := .cells #[.int .i64 t175, .string t176, .int .i64 t177, .slice Ao14 t178.length co14, .slice Ao15 t181.length co15] 28 (0, 0)) (qK BK186.out) hg (Kd.R_ne HO_8.out BK186.out (by decide))); have n5_ := qM (Kd.V_afterv (ok := (fun k_ => some k_ ≠ (.slice (some ad189) t170.length co10 : Value).ownBlock ∧ some k_ ≠ (u9 : Value).ownBlock ∧ some k_ ≠ (.slice Ao14 t178.length co14 : Value).ownBlock ∧ some k_ ≠ (.slice Ao15 t181.length co15 : Value).ownBlock ∧ k_ ≠ gb186)) (by (with_reducible repeat (first | apply Kd.V_alloc | apply Kd.V_drewN | apply Kd.V_drew)); exact Kd.V_mono HL189_3.out (fun _ hk => ⟨⟨hk.2, ⟨hk.1.2.1, ⟨hk.1.2.2.1, ⟨hk.1.2.2.2.1, hk.1.2.2.2.2⟩⟩⟩⟩, hk.1.1⟩)) hg hat); have n6_ := qM (hb); have n7_ := qM (ho); clear HO_3; clear HO_9; clear HO_187003; clear HO_187004; clear BK186; clear HL189_3; clear HB; clear HO_8; have HO_3 := n0_; have HO_9 := n1_; have HO_187003 := n2_; have HO_187004 := n3_; have BK186 := n4_; have HL189_3 := n5_; have HB := n6_; have HO192 := n7_; clear n0_ n1_ n2_ n3_ n4_ n5_ n6_ n7_; clear ho hb hg hat; have p193 : 0 ≤ (x11_1 : Int) := qD; have q193 : x11_1 < (t170.length : Int) := qD; obtain ⟨ad193, A193_3, c193_3, e193, hx193_0, hx193_1, hx193_2, hx193_3, hx193_4, hl193_3, hi193_3⟩ := at_T44 (Kd.N_reads' HO_3.out).2.2 x11_1 p193 q193; obtain rfl : ad189 = ad193 := (by injection e193); obtain ⟨ce193, hce193, hMe193, hcc193⟩ := Kd.N_get HO_3.out z44 x11_1 p193 (by first | exact q193 | exact qD | (have e_ := (Kd.N_reads' HO_3.out).1; omega)); obtain ⟨ua193_3, uc193_3, rfl, ul193_3, ge193_3⟩ := k44_openF hMe193; have hv193_3 := hcc193 3 _ rfl; rw [add_field _ _ 3 (by omega)] at hv193_3; replace hv193_3 := qI (hv193_3.symm.trans hx193_3); injection hv193_3 with hva_ hvn_ hvc_; rw [hva_] at ge193_3; rw [hvc_] at ul193_3; have HL193_3 := qM (show Kd.V (Kd.int .u8) 5 _ w.heap.size _ _ ((rd_T44 t170 x11_1).f3) from Kd.V_mk ul193_3 ge193_3); clear hva_ hvn_ hvc_ ge193_3 ul193_3; clear hcc193 hce193; have HR193_3 := qM hi193_3; have HC193_3 := qM hl193_3; clear hi193_3 hl193_3; replace p193 := eq_true p193; replace q193 := eq_true q193; have p194 : 0 ≤ (x11_1 : Int) := qD; have q194 : x11_1 < (t170.length : Int) := qD; obtain ⟨ad194, A194_3, c194_3, e194, hx194_0, hx194_1, hx194_2, hx194_3, hx194_4, hl194_3, hi194_3⟩ := at_T44 (Kd.N_reads' HO_3.out).2.2 x11_1 p194 q194; obtain rfl : ad189 = ad194 := (by injection e194); obtain ⟨ce194, hce194, hMe194, hcc194⟩ := Kd.N_get HO_3.out z44 x11_1 p194 (by first | exact q194 | exact qD | (have e_ := (Kd.N_reads' HO_3.out).1; omega)); obtain ⟨ua194_3, uc194_3, rfl, ul194_3, ge194_3⟩ := k44_openF hMe194; have hv194_3 := hcc194 3 _ rfl; rw [add_field _ _ 3 (by omega)] at hv194_3; replace hv194_3 := qI (hv194_3.symm.trans hx194_3); injection hv194_3 with hva_ hvn_ hvc_; rw [hva_] at ge194_3; rw [hvc_] at ul194_3; have HL194_3 := qM (show Kd.V (Kd.int .u8) 5 _ w.heap.size _ _ ((rd_T44 t170 x11_1).f3) from Kd.V_mk ul194_3 ge194_3); clear hva_ hvn_ hvc_ ge194_3 ul194_3; clear hcc194 hce194; have HR194_3 := qM hi194_3; have HC194_3 := qM hl194_3; clear hi194_3 hl194_3; replace p194 := eq_true p194; replace q194 := eq_true q194; have ea_ := qI (hx193_3.symm.trans hx194_3); injection ea_ with ea_ en_ ec_; subst ea_; subst ec_; clear en_) | ((with_reducible refine gate_builtin (b := .append) (xs := #[.tmp 79, .tmp 85]) rfl ?_); (try (refine gate_guard (by rfl) ?_; dsimp only)); at_builtin; refine Kd.R_append (Kd.int .i64) (w0 := w) w.heap.size rfl (.tmp 79) (.tmp 85) 42 2 (.int .i64 0) 8 rfl Tryd.underlying42 info2 rfl (by decide) (by omega) u9 x9_1 ((rd_T44 t170 x11_1).f2) [.int .i64 ((rd_T44 t170 x11_1).f2)] (fun _ => True) (fun _ => False) rfl rfl ?aP (fun _ hk => hk.elim) ?aF ?aO ?aB ?aS ?aL ?_; (case aP => exact rfl); (case aB => exact (by repeat (first | (with_reducible first | exact HB.out | apply below_alloc | apply pw_below_drewN | apply below_drew1 | refine below_set ?_ GE186.out) | exact HB.out))); (case aF => exact (fun _ _ => trivial)); (case aO => exact (qR HO_9.out)); (case aS => exact (below_size (by repeat (first | (with_reducible first | exact HB.out | apply below_alloc | apply pw_below_drewN | apply below_drew1 | refine below_set ?_ GE186.out) | exact HB.out)))); (case aL => have := LMc25.out; omega); intro v196 w28 ho hb hg hat; rw [← Ny195.out] at ho; have n0_ := qM (Kd.N_afterv (ok := (fun k_ => some k_ ≠ (.slice Ao14 t178.length co14 : Value).ownBlock ∧ some k_ ≠ (.slice Ao15 t181.length co15 : Value).ownBlock ∧ some k_ ≠ (v191 : Value).ownBlock ∧ k_ ≠ gb186)) (by (with_reducible repeat (first | apply Kd.N_alloc | apply Kd.N_drewN | apply Kd.N_drew)); exact Kd.N_mono HO_3.out (fun _ hk => ⟨⟨hk.1.2.1, ⟨hk.1.2.2.1, ⟨hk.2, hk.1.2.2.2⟩⟩⟩, hk.1.1⟩)) hg hat); have n1_ := qM (Kd.R_over' (qR HO_187003.out) (Kd.R_typed (qR HO_9.out)) (by decide) hg); have n2_ := qM (Kd.N_afterv (ok := (fun k_ => some k_ ≠ (.slice (some ad189) t170.length co10 : Value).ownBlock ∧ some k_ ≠ (.slice Ao14 t178.length co14 : Value).ownBlock ∧ some k_ ≠ (v191 : Value).ownBlock ∧ k_ ≠ gb186)) (by (with_reducible repeat (first | apply Kd.N_alloc | apply Kd.N_drewN | apply Kd.N_drew)); exact Kd.N_mono HO_187004.out (fun _ hk => ⟨⟨hk.1.1, ⟨hk.1.2.2.1, ⟨hk.2, hk.1.2.2.2⟩⟩⟩, hk.1.2.1⟩)) hg hat); have n3_ := qM (blk_grown (g := gb186) (o := .cells #[.int .i64 t175, .string t176, .int .i64 t177, .slice Ao14 t178.length co14, .slice Ao15 t181.length co15] 28 (0, 0)) (qK BK186.out) hg (Kd.R_ne HO_9.out BK186.out (by decide))); have n4_ := qM (Kd.V_afterv (ok := (fun k_ => some k_ ≠ (.slice (some ad189) t170.length co10 : Value).ownBlock ∧ some k_ ≠ (.slice Ao14 t178.length co14 : Value).ownBlock ∧ some k_ ≠ (.slice Ao15 t181.length co15 : Value).ownBlock ∧ some k_ ≠ (v191 : Value).ownBlock ∧ k_ ≠ gb186)) (by (with_reducible repeat (first | apply Kd.V_alloc | apply Kd.V_drewN | apply Kd.V_drew)); exact Kd.V_mono HL189_3.out (fun _ hk => ⟨⟨hk.1.1, ⟨hk.1.2.2.1, ⟨hk.1.2.2.2.1, ⟨hk.2, hk.1.2.2.2.2⟩⟩⟩⟩, hk.1.2.1⟩)) hg hat); have n5_ := qM (Kd.R_over' (qR HO192.out) (Kd.R_typed (qR HO_9.out)) (by decide) hg); have n6_ := qM (Kd.V_afterv (ok := (fun k_ => some k_ ≠ (.slice (some ad189) t170.length co10 : Value).ownBlock ∧ some k_ ≠ (.slice Ao14 t178.length co14 : Value).ownBlock ∧ some k_ ≠ (.slice Ao15 t181.length co15 : Value).ownBlock ∧ some k_ ≠ (v191 : Value).ownBlock ∧ k_ ≠ gb186)) (by (with_reducible repeat (first | apply Kd.V_alloc | apply Kd.V_drewN | apply Kd.V_drew)); exact Kd.V_mono HL193_3.out (fun _ hk => ⟨⟨hk.2, ⟨hk.1.1.2.1, ⟨hk.1.1.2.2.1, ⟨hk.1.2, hk.1.1.2.2.2⟩⟩⟩⟩, hk.1.1.1⟩)) hg hat); have n7_ := qM (Kd.V_afterv (ok := (fun k_ => some k_ ≠ (.slice (some ad189) t170.length co10 : Value).ownBlock ∧ some k_ ≠ (.slice Ao14 t178.length co14 : Value).ownBlock ∧ some k_ ≠ (.slice Ao15 t181.length co15 : Value).ownBlock ∧ some k_ ≠ (v191 : Value).ownBlock ∧ k_ ≠ gb186)) (by (with_reducible repeat (first | apply Kd.V_alloc | apply Kd.V_drewN | apply Kd.V_drew)); exact Kd.V_mono HL194_3.out (fun _ hk => ⟨⟨hk.2, ⟨hk.1.1.2.1, ⟨hk.1.1.2.2.1, ⟨hk.1.2, hk.1.1.2.2.2⟩⟩⟩⟩, hk.1.1.1⟩)) hg hat); have n8_ := qM (hb); have n9_ := qM (ho); clear HO_3; clear HO_187003; clear HO_187004; clear BK186; clear HL189_3; clear HO192; clear HL193_3; clear HL194_3; clear HB; clear HO_9; have HO_3 := n0_; have HO_187003 := n1_; have HO_187004 := n2_; have BK186 := n3_; have HL189_3 := n4_; have HO192 := n5_; have HL193_3 := n6_; have HL194_3 := n7_; have HB := n8_; have HO197 := n9_; clear n0_ n1_ n2_ n3_ n4_ n5_ n6_ n7_ n8_ n9_; clear ho hb hg hat; have p198 : 0 ≤ (x11_1 : Int) := qD; have q198 : x11_1 < (t170.length : Int) := qD; obtain ⟨ad198, A198_3, c198_3, e198, hx198_0, hx198_1, hx198_2, hx198_3, hx198_4, hl198_3, hi198_3⟩ := at_T44 (Kd.N_reads' HO_3.out).2.2 x11_1 p198 q198; obtain rfl : ad189 = ad198 := (by injection e198); obtain ⟨ce198, hce198, hMe198, hcc198⟩ := Kd.N_get HO_3.out z44 x11_1 p198 (by first | exact q198 | exact qD | (have e_ := (Kd.N_reads' HO_3.out).1; omega)); obtain ⟨ua198_3, uc198_3, rfl, ul198_3, ge198_3⟩ := k44_openF hMe198; have hv198_3 := hcc198 3 _ rfl; rw [add_field _ _ 3 (by omega)] at hv198_3; replace hv198_3 := qI (hv198_3.symm.trans hx198_3); injection hv198_3 with hva_ hvn_ hvc_; rw [hva_] at ge198_3; rw [hvc_] at ul198_3; have HL198_3 := qM (show Kd.V (Kd.int .u8) 5 _ w.heap.size _ _ ((rd_T44 t170 x11_1).f3) from Kd.V_mk ul198_3 ge198_3); clear hva_ hvn_ hvc_ ge198_3 ul198_3; clear hcc198 hce198; have HR198_3 := qM hi198_3; have HC198_3 := qM hl198_3; clear hi198_3 hl198_3; replace p198 := eq_true p198; replace q198 := eq_true q198; have hcv29 := Kd.C_string (P := Tryd.prog) (A := A198_3) (c := c198_3) Tryd.underlying25 Tryd.underlying5 Tryd.underlying9 (by repeat (first | (with_reducible exact HR198_3.out) | (with_reducible refine Kd.C_alloc ?_ _) | (with_reducible refine Kd.C_drewN ?_ _) | (with_reducible refine Kd.C_drew ?_) | exact HR198_3.out))))
                repeat (go_quiet (first | ((with_reducible refine gate_builtin (b := .append) (xs := #[.tmp 65, .tmp 71]) rfl ?_); (try (refine gate_guard (by rfl) ?_; dsimp only)); at_builtin; refine Kd.R_append Kd.string (w0 := w) w.heap.size rfl (.tmp 65) (.tmp 71) 23 9 (.string ⟨#[]⟩) 16 rfl Tryd.underlying23 info9 rfl (by decide) (by omega) u8 x8_1 ((rd_T44 t170 x11_1).f1) [.string ((rd_T44 t170 x11_1).f1)] (fun _ => True) (fun _ => False) rfl rfl ?aP (fun _ hk => hk.elim) ?aF ?aO ?aB ?aS ?aL ?_; (case aP => exact rfl); (case aB => exact (by repeat (first | (with_reducible first | exact HB.out | apply below_alloc | apply pw_below_drewN | apply below_drew1 | refine below_set ?_ GE186.out) | exact HB.out))); (case aF => exact (fun _ _ => trivial)); (case aO => exact (qR HO_8.out)); (case aS => exact (below_size (by repeat (first | (with_reducible first | exact HB.out | apply below_alloc | apply pw_below_drewN | apply below_drew1 | refine below_set ?_ GE186.out) | exact HB.out)))); (case aL => have := LMc23.out; omega); intro v191 w27 ho hb hg hat; rw [← Ny190.out] at ho; have n0_ := qM (Kd.N_afterv (ok := (fun k_ => some k_ ≠ (u9 : Value).ownBlock ∧ some k_ ≠ (.slice Ao14 t178.length co14 : Value).ownBlock ∧ some k_ ≠ (.slice Ao15 t181.length co15 : Value).ownBlock ∧ k_ ≠ gb186)) (by (with_reducible repeat (first | apply Kd.N_alloc | apply Kd.N_drewN | apply Kd.N_drew)); exact Kd.N_mono HO_3.out (fun _ hk => ⟨⟨hk.2.1, ⟨hk.2.2.1, ⟨hk.2.2.2.1, hk.2.2.2.2⟩⟩⟩, hk.1⟩)) hg hat); have n1_ := qM (Kd.R_over' (qR HO_9.out) (Kd.R_typed (qR HO_8.out)) (by decide) hg); have n2_ := qM (Kd.R_over' (qR HO_187003.out) (Kd.R_typed (qR HO_8.out)) (by decide) hg); have n3_ := qM (Kd.N_afterv (ok := (fun k_ => some k_ ≠ (.slice (some ad189) t170.length co10 : Value).ownBlock ∧ some k_ ≠ (u9 : Value).ownBlock ∧ some k_ ≠ (.slice Ao14 t178.length co14 : Value).ownBlock ∧ k_ ≠ gb186)) (by (with_reducible repeat (first | apply Kd.N_alloc | apply Kd.N_drewN | apply Kd.N_drew)); exact Kd.N_mono HO_187004.out (fun _ hk => ⟨⟨hk.1, ⟨hk.2.2.1, ⟨hk.2.2.2.1, hk.2.2.2.2⟩⟩⟩, hk.2.1⟩)) hg hat); have n4_ := qM (blk_grown (g := gb186) (o := .cells #[.int .i64 t175, .string t176, .int .i64 t177, .slice Ao14 t178.length co14, .slice Ao15 t181.length co15] 28 (0, 0)) (qK BK186.out) hg (Kd.R_ne HO_8.out BK186.out (by decide))); have n5_ := qM (Kd.V_afterv (ok := (fun k_ => some k_ ≠ (.slice (some ad189) t170.length co10 : Value).ownBlock ∧ some k_ ≠ (u9 : Value).ownBlock ∧ some k_ ≠ (.slice Ao14 t178.length co14 : Value).ownBlock ∧ some k_ ≠ (.slice Ao15 t181.length co15 : Value).ownBlock ∧ k_ ≠ gb186)) (by (with_reducible repeat (first | apply Kd.V_alloc | apply Kd.V_drewN | apply Kd.V_drew)); exact Kd.V_mono HL189_3.out (fun _ hk => ⟨⟨hk.2, ⟨hk.1.2.1, ⟨hk.1.2.2.1, ⟨hk.1.2.2.2.1, hk.1.2.2.2.2⟩⟩⟩⟩, hk.1.1⟩)) hg hat); have n6_ := qM (hb); have n7_ := qM (ho); clear HO_3; clear HO_9; clear HO_187003; clear HO_187004; clear BK186; clear HL189_3; clear HB; clear HO_8; have HO_3 := n0_; have HO_9 := n1_; have HO_187003 := n2_; have HO_187004 := n3_; have BK186 := n4_; have HL189_3 := n5_; have HB := n6_; have HO192 := n7_; clear n0_ n1_ n2_ n3_ n4_ n5_ n6_ n7_; clear ho hb hg hat; have p193 : 0 ≤ (x11_1 : Int) := qD; have q193 : x11_1 < (t170.length : Int) := qD; obtain ⟨ad193, A193_3, c193_3, e193, hx193_0, hx193_1, hx193_2, hx193_3, hx193_4, hl193_3, hi193_3⟩ := at_T44 (Kd.N_reads' HO_3.out).2.2 x11_1 p193 q193; obtain rfl : ad189 = ad193 := (by injection e193); obtain ⟨ce193, hce193, hMe193, hcc193⟩ := Kd.N_get HO_3.out z44 x11_1 p193 (by first | exact q193 | exact qD | (have e_ := (Kd.N_reads' HO_3.out).1; omega)); obtain ⟨ua193_3, uc193_3, rfl, ul193_3, ge193_3⟩ := k44_openF hMe193; have hv193_3 := hcc193 3 _ rfl; rw [add_field _ _ 3 (by omega)] at hv193_3; replace hv193_3 := qI (hv193_3.symm.trans hx193_3); injection hv193_3 with hva_ hvn_ hvc_; rw [hva_] at ge193_3; rw [hvc_] at ul193_3; have HL193_3 := qM (show Kd.V (Kd.int .u8) 5 _ w.heap.size _ _ ((rd_T44 t170 x11_1).f3) from Kd.V_mk ul193_3 ge193_3); clear hva_ hvn_ hvc_ ge193_3 ul193_3; clear hcc193 hce193; have HR193_3 := qM hi193_3; have HC193_3 := qM hl193_3; clear hi193_3 hl193_3; replace p193 := eq_true p193; replace q193 := eq_true q193; have p194 : 0 ≤ (x11_1 : Int) := qD; have q194 : x11_1 < (t170.length : Int) := qD; obtain ⟨ad194, A194_3, c194_3, e194, hx194_0, hx194_1, hx194_2, hx194_3, hx194_4, hl194_3, hi194_3⟩ := at_T44 (Kd.N_reads' HO_3.out).2.2 x11_1 p194 q194; obtain rfl : ad189 = ad194 := (by injection e194); obtain ⟨ce194, hce194, hMe194, hcc194⟩ := Kd.N_get HO_3.out z44 x11_1 p194 (by first | exact q194 | exact qD | (have e_ := (Kd.N_reads' HO_3.out).1; omega)); obtain ⟨ua194_3, uc194_3, rfl, ul194_3, ge194_3⟩ := k44_openF hMe194; have hv194_3 := hcc194 3 _ rfl; rw [add_field _ _ 3 (by omega)] at hv194_3; replace hv194_3 := qI (hv194_3.symm.trans hx194_3); injection hv194_3 with hva_ hvn_ hvc_; rw [hva_] at ge194_3; rw [hvc_] at ul194_3; have HL194_3 := qM (show Kd.V (Kd.int .u8) 5 _ w.heap.size _ _ ((rd_T44 t170 x11_1).f3) from Kd.V_mk ul194_3 ge194_3); clear hva_ hvn_ hvc_ ge194_3 ul194_3; clear hcc194 hce194; have HR194_3 := qM hi194_3; have HC194_3 := qM hl194_3; clear hi194_3 hl194_3; replace p194 := eq_true p194; replace q194 := eq_true q194; have ea_ := qI (hx193_3.symm.trans hx194_3); injection ea_ with ea_ en_ ec_; subst ea_; subst ec_; clear en_) | ((with_reducible refine gate_builtin (b := .append) (xs := #[.tmp 79, .tmp 85]) rfl ?_); (try (refine gate_guard (by rfl) ?_; dsimp only)); at_builtin; refine Kd.R_append (Kd.int .i64) (w0 := w) w.heap.size rfl (.tmp 79) (.tmp 85) 42 2 (.int .i64 0) 8 rfl Tryd.underlying42 info2 rfl (by decide) (by omega) u9 x9_1 ((rd_T44 t170 x11_1).f2) [.int .i64 ((rd_T44 t170 x11_1).f2)] (fun _ => True) (fun _ => False) rfl rfl ?aP (fun _ hk => hk.elim) ?aF ?aO ?aB ?aS ?aL ?_; (case aP => exact rfl); (case aB => exact (by repeat (first | (with_reducible first | exact HB.out | apply below_alloc | apply pw_below_drewN | apply below_drew1 | refine below_set ?_ GE186.out) | exact HB.out))); (case aF => exact (fun _ _ => trivial)); (case aO => exact (qR HO_9.out)); (case aS => exact (below_size (by repeat (first | (with_reducible first | exact HB.out | apply below_alloc | apply pw_below_drewN | apply below_drew1 | refine below_set ?_ GE186.out) | exact HB.out)))); (case aL => have := LMc25.out; omega); intro v196 w28 ho hb hg hat; rw [← Ny195.out] at ho; have n0_ := qM (Kd.N_afterv (ok := (fun k_ => some k_ ≠ (.slice Ao14 t178.length co14 : Value).ownBlock ∧ some k_ ≠ (.slice Ao15 t181.length co15 : Value).ownBlock ∧ some k_ ≠ (v191 : Value).ownBlock ∧ k_ ≠ gb186)) (by (with_reducible repeat (first | apply Kd.N_alloc | apply Kd.N_drewN | apply Kd.N_drew)); exact Kd.N_mono HO_3.out (fun _ hk => ⟨⟨hk.1.2.1, ⟨hk.1.2.2.1, ⟨hk.2, hk.1.2.2.2⟩⟩⟩, hk.1.1⟩)) hg hat); have n1_ := qM (Kd.R_over' (qR HO_187003.out) (Kd.R_typed (qR HO_9.out)) (by decide) hg); have n2_ := qM (Kd.N_afterv (ok := (fun k_ => some k_ ≠ (.slice (some ad189) t170.length co10 : Value).ownBlock ∧ some k_ ≠ (.slice Ao14 t178.length co14 : Value).ownBlock ∧ some k_ ≠ (v191 : Value).ownBlock ∧ k_ ≠ gb186)) (by (with_reducible repeat (first | apply Kd.N_alloc | apply Kd.N_drewN | apply Kd.N_drew)); exact Kd.N_mono HO_187004.out (fun _ hk => ⟨⟨hk.1.1, ⟨hk.1.2.2.1, ⟨hk.2, hk.1.2.2.2⟩⟩⟩, hk.1.2.1⟩)) hg hat); have n3_ := qM (blk_grown (g := gb186) (o := .cells #[.int .i64 t175, .string t176, .int .i64 t177, .slice Ao14 t178.length co14, .slice Ao15 t181.length co15] 28 (0, 0)) (qK BK186.out) hg (Kd.R_ne HO_9.out BK186.out (by decide))); have n4_ := qM (Kd.V_afterv (ok := (fun k_ => some k_ ≠ (.slice (some ad189) t170.length co10 : Value).ownBlock ∧ some k_ ≠ (.slice Ao14 t178.length co14 : Value).ownBlock ∧ some k_ ≠ (.slice Ao15 t181.length co15 : Value).ownBlock ∧ some k_ ≠ (v191 : Value).ownBlock ∧ k_ ≠ gb186)) (by (with_reducible repeat (first | apply Kd.V_alloc | apply Kd.V_drewN | apply Kd.V_drew)); exact Kd.V_mono HL189_3.out (fun _ hk => ⟨⟨hk.1.1, ⟨hk.1.2.2.1, ⟨hk.1.2.2.2.1, ⟨hk.2, hk.1.2.2.2.2⟩⟩⟩⟩, hk.1.2.1⟩)) hg hat); have n5_ := qM (Kd.R_over' (qR HO192.out) (Kd.R_typed (qR HO_9.out)) (by decide) hg); have n6_ := qM (Kd.V_afterv (ok := (fun k_ => some k_ ≠ (.slice (some ad189) t170.length co10 : Value).ownBlock ∧ some k_ ≠ (.slice Ao14 t178.length co14 : Value).ownBlock ∧ some k_ ≠ (.slice Ao15 t181.length co15 : Value).ownBlock ∧ some k_ ≠ (v191 : Value).ownBlock ∧ k_ ≠ gb186)) (by (with_reducible repeat (first | apply Kd.V_alloc | apply Kd.V_drewN | apply Kd.V_drew)); exact Kd.V_mono HL193_3.out (fun _ hk => ⟨⟨hk.2, ⟨hk.1.1.2.1, ⟨hk.1.1.2.2.1, ⟨hk.1.2, hk.1.1.2.2.2⟩⟩⟩⟩, hk.1.1.1⟩)) hg hat); have n7_ := qM (Kd.V_afterv (ok := (fun k_ => some k_ ≠ (.slice (some ad189) t170.length co10 : Value).ownBlock ∧ some k_ ≠ (.slice Ao14 t178.length co14 : Value).ownBlock ∧ some k_ ≠ (.slice Ao15 t181.length co15 : Value).ownBlock ∧ some k_ ≠ (v191 : Value).ownBlock ∧ k_ ≠ gb186)) (by (with_reducible repeat (first | apply Kd.V_alloc | apply Kd.V_drewN | apply Kd.V_drew)); exact Kd.V_mono HL194_3.out (fun _ hk => ⟨⟨hk.2, ⟨hk.1.1.2.1, ⟨hk.1.1.2.2.1, ⟨hk.1.2, hk.1.1.2.2.2⟩⟩⟩⟩, hk.1.1.1⟩)) hg hat); have n8_ := qM (hb); have n9_ := qM (ho); clear HO_3; clear HO_187003; clear HO_187004; clear BK186; clear HL189_3; clear HO192; clear HL193_3; clear HL194_3; clear HB; clear HO_9; have HO_3 := n0_; have HO_187003 := n1_; have HO_187004 := n2_; have BK186 := n3_; have HL189_3 := n4_; have HO192 := n5_; have HL193_3 := n6_; have HL194_3 := n7_; have HB := n8_; have HO197 := n9_; clear n0_ n1_ n2_ n3_ n4_ n5_ n6_ n7_ n8_ n9_; clear ho hb hg hat; have p198 : 0 ≤ (x11_1 : Int) := qD; have q198 : x11_1 < (t170.length : Int) := qD; obtain ⟨ad198, A198_3, c198_3, e198, hx198_0, hx198_1, hx198_2, hx198_3, hx198_4, hl198_3, hi198_3⟩ := at_T44 (Kd.N_reads' HO_3.out).2.2 x11_1 p198 q198; obtain rfl : ad189 = ad198 := (by injection e198); obtain ⟨ce198, hce198, hMe198, hcc198⟩ := Kd.N_get HO_3.out z44 x11_1 p198 (by first | exact q198 | exact qD | (have e_ := (Kd.N_reads' HO_3.out).1; omega)); obtain ⟨ua198_3, uc198_3, rfl, ul198_3, ge198_3⟩ := k44_openF hMe198; have hv198_3 := hcc198 3 _ rfl; rw [add_field _ _ 3 (by omega)] at hv198_3; replace hv198_3 := qI (hv198_3.symm.trans hx198_3); injection hv198_3 with hva_ hvn_ hvc_; rw [hva_] at ge198_3; rw [hvc_] at ul198_3; have HL198_3 := qM (show Kd.V (Kd.int .u8) 5 _ w.heap.size _ _ ((rd_T44 t170 x11_1).f3) from Kd.V_mk ul198_3 ge198_3); clear hva_ hvn_ hvc_ ge198_3 ul198_3; clear hcc198 hce198; have HR198_3 := qM hi198_3; have HC198_3 := qM hl198_3; clear hi198_3 hl198_3; replace p198 := eq_true p198; replace q198 := eq_true q198; have hcv29 := Kd.C_string (P := Tryd.prog) (A := A198_3) (c := c198_3) Tryd.underlying25 Tryd.underlying5 Tryd.underlying9 (by repeat (first | (with_reducible exact HR198_3.out) | (with_reducible refine Kd.C_alloc ?_ _) | (with_reducible refine Kd.C_drewN ?_ _) | (with_reducible refine Kd.C_drew ?_) | exact HR198_3.out)))); try go_wp2_with (first | ((with_reducible refine gate_builtin (b := .append) (xs := #[.tmp 65, .tmp 71]) rfl ?_); (try (refine gate_guard (by rfl) ?_; dsimp only)); at_builtin; refine Kd.R_append Kd.string (w0 := w) w.heap.size rfl (.tmp 65) (.tmp 71) 23 9 (.string ⟨#[]⟩) 16 rfl Tryd.underlying23 info9 rfl (by decide) (by omega) u8 x8_1 ((rd_T44 t170 x11_1).f1) [.string ((rd_T44 t170 x11_1).f1)] (fun _ => True) (fun _ => False) rfl rfl ?aP (fun _ hk => hk.elim) ?aF ?aO ?aB ?aS ?aL ?_; (case aP => exact rfl); (case aB => exact (by repeat (first | (with_reducible first | exact HB.out | apply below_alloc | apply pw_below_drewN | apply below_drew1 | refine below_set ?_ GE186.out) | exact HB.out))); (case aF => exact (fun _ _ => trivial)); (case aO => exact (qR HO_8.out)); (case aS => exact (below_size (by repeat (first | (with_reducible first | exact HB.out | apply below_alloc | apply pw_below_drewN | apply below_drew1 | refine below_set ?_ GE186.out) | exact HB.out)))); (case aL => have := LMc23.out; omega); intro v191 w27 ho hb hg hat; rw [← Ny190.out] at ho; have n0_ := qM (Kd.N_afterv (ok := (fun k_ => some k_ ≠ (u9 : Value).ownBlock ∧ some k_ ≠ (.slice Ao14 t178.length co14 : Value).ownBlock ∧ some k_ ≠ (.slice Ao15 t181.length co15 : Value).ownBlock ∧ k_ ≠ gb186)) (by (with_reducible repeat (first | apply Kd.N_alloc | apply Kd.N_drewN | apply Kd.N_drew)); exact Kd.N_mono HO_3.out (fun _ hk => ⟨⟨hk.2.1, ⟨hk.2.2.1, ⟨hk.2.2.2.1, hk.2.2.2.2⟩⟩⟩, hk.1⟩)) hg hat); have n1_ := qM (Kd.R_over' (qR HO_9.out) (Kd.R_typed (qR HO_8.out)) (by decide) hg); have n2_ := qM (Kd.R_over' (qR HO_187003.out) (Kd.R_typed (qR HO_8.out)) (by decide) hg); have n3_ := qM (Kd.N_afterv (ok := (fun k_ => some k_ ≠ (.slice (some ad189) t170.length co10 : Value).ownBlock ∧ some k_ ≠ (u9 : Value).ownBlock ∧ some k_ ≠ (.slice Ao14 t178.length co14 : Value).ownBlock ∧ k_ ≠ gb186)) (by (with_reducible repeat (first | apply Kd.N_alloc | apply Kd.N_drewN | apply Kd.N_drew)); exact Kd.N_mono HO_187004.out (fun _ hk => ⟨⟨hk.1, ⟨hk.2.2.1, ⟨hk.2.2.2.1, hk.2.2.2.2⟩⟩⟩, hk.2.1⟩)) hg hat); have n4_ := qM (blk_grown (g := gb186) (o := .cells #[.int .i64 t175, .string t176, .int .i64 t177, .slice Ao14 t178.length co14, .slice Ao15 t181.length co15] 28 (0, 0)) (qK BK186.out) hg (Kd.R_ne HO_8.out BK186.out (by decide))); have n5_ := qM (Kd.V_afterv (ok := (fun k_ => some k_ ≠ (.slice (some ad189) t170.length co10 : Value).ownBlock ∧ some k_ ≠ (u9 : Value).ownBlock ∧ some k_ ≠ (.slice Ao14 t178.length co14 : Value).ownBlock ∧ some k_ ≠ (.slice Ao15 t181.length co15 : Value).ownBlock ∧ k_ ≠ gb186)) (by (with_reducible repeat (first | apply Kd.V_alloc | apply Kd.V_drewN | apply Kd.V_drew)); exact Kd.V_mono HL189_3.out (fun _ hk => ⟨⟨hk.2, ⟨hk.1.2.1, ⟨hk.1.2.2.1, ⟨hk.1.2.2.2.1, hk.1.2.2.2.2⟩⟩⟩⟩, hk.1.1⟩)) hg hat); have n6_ := qM (hb); have n7_ := qM (ho); clear HO_3; clear HO_9; clear HO_187003; clear HO_187004; clear BK186; clear HL189_3; clear HB; clear HO_8; have HO_3 := n0_; have HO_9 := n1_; have HO_187003 := n2_; have HO_187004 := n3_; have BK186 := n4_; have HL189_3 := n5_; have HB := n6_; have HO192 := n7_; clear n0_ n1_ n2_ n3_ n4_ n5_ n6_ n7_; clear ho hb hg hat; have p193 : 0 ≤ (x11_1 : Int) := qD; have q193 : x11_1 < (t170.length : Int) := qD; obtain ⟨ad193, A193_3, c193_3, e193, hx193_0, hx193_1, hx193_2, hx193_3, hx193_4, hl193_3, hi193_3⟩ := at_T44 (Kd.N_reads' HO_3.out).2.2 x11_1 p193 q193; obtain rfl : ad189 = ad193 := (by injection e193); obtain ⟨ce193, hce193, hMe193, hcc193⟩ := Kd.N_get HO_3.out z44 x11_1 p193 (by first | exact q193 | exact qD | (have e_ := (Kd.N_reads' HO_3.out).1; omega)); obtain ⟨ua193_3, uc193_3, rfl, ul193_3, ge193_3⟩ := k44_openF hMe193; have hv193_3 := hcc193 3 _ rfl; rw [add_field _ _ 3 (by omega)] at hv193_3; replace hv193_3 := qI (hv193_3.symm.trans hx193_3); injection hv193_3 with hva_ hvn_ hvc_; rw [hva_] at ge193_3; rw [hvc_] at ul193_3; have HL193_3 := qM (show Kd.V (Kd.int .u8) 5 _ w.heap.size _ _ ((rd_T44 t170 x11_1).f3) from Kd.V_mk ul193_3 ge193_3); clear hva_ hvn_ hvc_ ge193_3 ul193_3; clear hcc193 hce193; have HR193_3 := qM hi193_3; have HC193_3 := qM hl193_3; clear hi193_3 hl193_3; replace p193 := eq_true p193; replace q193 := eq_true q193; have p194 : 0 ≤ (x11_1 : Int) := qD; have q194 : x11_1 < (t170.length : Int) := qD; obtain ⟨ad194, A194_3, c194_3, e194, hx194_0, hx194_1, hx194_2, hx194_3, hx194_4, hl194_3, hi194_3⟩ := at_T44 (Kd.N_reads' HO_3.out).2.2 x11_1 p194 q194; obtain rfl : ad189 = ad194 := (by injection e194); obtain ⟨ce194, hce194, hMe194, hcc194⟩ := Kd.N_get HO_3.out z44 x11_1 p194 (by first | exact q194 | exact qD | (have e_ := (Kd.N_reads' HO_3.out).1; omega)); obtain ⟨ua194_3, uc194_3, rfl, ul194_3, ge194_3⟩ := k44_openF hMe194; have hv194_3 := hcc194 3 _ rfl; rw [add_field _ _ 3 (by omega)] at hv194_3; replace hv194_3 := qI (hv194_3.symm.trans hx194_3); injection hv194_3 with hva_ hvn_ hvc_; rw [hva_] at ge194_3; rw [hvc_] at ul194_3; have HL194_3 := qM (show Kd.V (Kd.int .u8) 5 _ w.heap.size _ _ ((rd_T44 t170 x11_1).f3) from Kd.V_mk ul194_3 ge194_3); clear hva_ hvn_ hvc_ ge194_3 ul194_3; clear hcc194 hce194; have HR194_3 := qM hi194_3; have HC194_3 := qM hl194_3; clear hi194_3 hl194_3; replace p194 := eq_true p194; replace q194 := eq_true q194; have ea_ := qI (hx193_3.symm.trans hx194_3); injection ea_ with ea_ en_ ec_; subst ea_; subst ec_; clear en_) | ((with_reducible refine gate_builtin (b := .append) (xs := #[.tmp 79, .tmp 85]) rfl ?_); (try (refine gate_guard (by rfl) ?_; dsimp only)); at_builtin; refine Kd.R_append (Kd.int .i64) (w0 := w) w.heap.size rfl (.tmp 79) (.tmp 85) 42 2 (.int .i64 0) 8 rfl Tryd.underlying42 info2 rfl (by decide) (by omega) u9 x9_1 ((rd_T44 t170 x11_1).f2) [.int .i64 ((rd_T44 t170 x11_1).f2)] (fun _ => True) (fun _ => False) rfl rfl ?aP (fun _ hk => hk.elim) ?aF ?aO ?aB ?aS ?aL ?_; (case aP => exact rfl); (case aB => exact (by repeat (first | (with_reducible first | exact HB.out | apply below_alloc | apply pw_below_drewN | apply below_drew1 | refine below_set ?_ GE186.out) | exact HB.out))); (case aF => exact (fun _ _ => trivial)); (case aO => exact (qR HO_9.out)); (case aS => exact (below_size (by repeat (first | (with_reducible first | exact HB.out | apply below_alloc | apply pw_below_drewN | apply below_drew1 | refine below_set ?_ GE186.out) | exact HB.out)))); (case aL => have := LMc25.out; omega); intro v196 w28 ho hb hg hat; rw [← Ny195.out] at ho; have n0_ := qM (Kd.N_afterv (ok := (fun k_ => some k_ ≠ (.slice Ao14 t178.length co14 : Value).ownBlock ∧ some k_ ≠ (.slice Ao15 t181.length co15 : Value).ownBlock ∧ some k_ ≠ (v191 : Value).ownBlock ∧ k_ ≠ gb186)) (by (with_reducible repeat (first | apply Kd.N_alloc | apply Kd.N_drewN | apply Kd.N_drew)); exact Kd.N_mono HO_3.out (fun _ hk => ⟨⟨hk.1.2.1, ⟨hk.1.2.2.1, ⟨hk.2, hk.1.2.2.2⟩⟩⟩, hk.1.1⟩)) hg hat); have n1_ := qM (Kd.R_over' (qR HO_187003.out) (Kd.R_typed (qR HO_9.out)) (by decide) hg); have n2_ := qM (Kd.N_afterv (ok := (fun k_ => some k_ ≠ (.slice (some ad189) t170.length co10 : Value).ownBlock ∧ some k_ ≠ (.slice Ao14 t178.length co14 : Value).ownBlock ∧ some k_ ≠ (v191 : Value).ownBlock ∧ k_ ≠ gb186)) (by (with_reducible repeat (first | apply Kd.N_alloc | apply Kd.N_drewN | apply Kd.N_drew)); exact Kd.N_mono HO_187004.out (fun _ hk => ⟨⟨hk.1.1, ⟨hk.1.2.2.1, ⟨hk.2, hk.1.2.2.2⟩⟩⟩, hk.1.2.1⟩)) hg hat); have n3_ := qM (blk_grown (g := gb186) (o := .cells #[.int .i64 t175, .string t176, .int .i64 t177, .slice Ao14 t178.length co14, .slice Ao15 t181.length co15] 28 (0, 0)) (qK BK186.out) hg (Kd.R_ne HO_9.out BK186.out (by decide))); have n4_ := qM (Kd.V_afterv (ok := (fun k_ => some k_ ≠ (.slice (some ad189) t170.length co10 : Value).ownBlock ∧ some k_ ≠ (.slice Ao14 t178.length co14 : Value).ownBlock ∧ some k_ ≠ (.slice Ao15 t181.length co15 : Value).ownBlock ∧ some k_ ≠ (v191 : Value).ownBlock ∧ k_ ≠ gb186)) (by (with_reducible repeat (first | apply Kd.V_alloc | apply Kd.V_drewN | apply Kd.V_drew)); exact Kd.V_mono HL189_3.out (fun _ hk => ⟨⟨hk.1.1, ⟨hk.1.2.2.1, ⟨hk.1.2.2.2.1, ⟨hk.2, hk.1.2.2.2.2⟩⟩⟩⟩, hk.1.2.1⟩)) hg hat); have n5_ := qM (Kd.R_over' (qR HO192.out) (Kd.R_typed (qR HO_9.out)) (by decide) hg); have n6_ := qM (Kd.V_afterv (ok := (fun k_ => some k_ ≠ (.slice (some ad189) t170.length co10 : Value).ownBlock ∧ some k_ ≠ (.slice Ao14 t178.length co14 : Value).ownBlock ∧ some k_ ≠ (.slice Ao15 t181.length co15 : Value).ownBlock ∧ some k_ ≠ (v191 : Value).ownBlock ∧ k_ ≠ gb186)) (by (with_reducible repeat (first | apply Kd.V_alloc | apply Kd.V_drewN | apply Kd.V_drew)); exact Kd.V_mono HL193_3.out (fun _ hk => ⟨⟨hk.2, ⟨hk.1.1.2.1, ⟨hk.1.1.2.2.1, ⟨hk.1.2, hk.1.1.2.2.2⟩⟩⟩⟩, hk.1.1.1⟩)) hg hat); have n7_ := qM (Kd.V_afterv (ok := (fun k_ => some k_ ≠ (.slice (some ad189) t170.length co10 : Value).ownBlock ∧ some k_ ≠ (.slice Ao14 t178.length co14 : Value).ownBlock ∧ some k_ ≠ (.slice Ao15 t181.length co15 : Value).ownBlock ∧ some k_ ≠ (v191 : Value).ownBlock ∧ k_ ≠ gb186)) (by (with_reducible repeat (first | apply Kd.V_alloc | apply Kd.V_drewN | apply Kd.V_drew)); exact Kd.V_mono HL194_3.out (fun _ hk => ⟨⟨hk.2, ⟨hk.1.1.2.1, ⟨hk.1.1.2.2.1, ⟨hk.1.2, hk.1.1.2.2.2⟩⟩⟩⟩, hk.1.1.1⟩)) hg hat); have n8_ := qM (hb); have n9_ := qM (ho); clear HO_3; clear HO_187003; clear HO_187004; clear BK186; clear HL189_3; clear HO192; clear HL193_3; clear HL194_3; clear HB; clear HO_9; have HO_3 := n0_; have HO_187003 := n1_; have HO_187004 := n2_; have BK186 := n3_; have HL189_3 := n4_; have HO192 := n5_; have HL193_3 := n6_; have HL194_3 := n7_; have HB := n8_; have HO197 := n9_; clear n0_ n1_ n2_ n3_ n4_ n5_ n6_ n7_ n8_ n9_; clear ho hb hg hat; have p198 : 0 ≤ (x11_1 : Int) := qD; have q198 : x11_1 < (t170.length : Int) := qD; obtain ⟨ad198, A198_3, c198_3, e198, hx198_0, hx198_1, hx198_2, hx198_3, hx198_4, hl198_3, hi198_3⟩ := at_T44 (Kd.N_reads' HO_3.out).2.2 x11_1 p198 q198; obtain rfl : ad189 = ad198 := (by injection e198); obtain ⟨ce198, hce198, hMe198, hcc198⟩ := Kd.N_get HO_3.out z44 x11_1 p198 (by first | exact q198 | exact qD | (have e_ := (Kd.N_reads' HO_3.out).1; omega)); obtain ⟨ua198_3, uc198_3, rfl, ul198_3, ge198_3⟩ := k44_openF hMe198; have hv198_3 := hcc198 3 _ rfl; rw [add_field _ _ 3 (by omega)] at hv198_3; replace hv198_3 := qI (hv198_3.symm.trans hx198_3); injection hv198_3 with hva_ hvn_ hvc_; rw [hva_] at ge198_3; rw [hvc_] at ul198_3; have HL198_3 := qM (show Kd.V (Kd.int .u8) 5 _ w.heap.size _ _ ((rd_T44 t170 x11_1).f3) from Kd.V_mk ul198_3 ge198_3); clear hva_ hvn_ hvc_ ge198_3 ul198_3; clear hcc198 hce198; have HR198_3 := qM hi198_3; have HC198_3 := qM hl198_3; clear hi198_3 hl198_3; replace p198 := eq_true p198; replace q198 := eq_true q198; have hcv29 := Kd.C_string (P := Tryd.prog) (A := A198_3) (c := c198_3) Tryd.underlying25 Tryd.underlying5 Tryd.underlying9 (by repeat (first | (with_reducible exact HR198_3.out) | (with_reducible refine Kd.C_alloc ?_ _) | (with_reducible refine Kd.C_drewN ?_ _) | (with_reducible refine Kd.C_drew ?_) | exact HR198_3.out)))))
                go_roundg kj16
                case measure => have := HK1.out; have := HJ16.out; omega
                case rel => exact ⟨(y190), (y195), (x10_1 ++ (strOfNums ((rd_T44 t170 x11_1).f3))), (wrap64 (x11_1 + 1)), qS, qS, H', ⟨by have := HK1.out; have := HJ16.out; omega⟩, ⟨by (with_reducible repeat (first | apply Kd.N_alloc | apply Kd.N_drewN | apply Kd.N_drew)); exact Kd.N_mono HO_3.out (fun _ hk => ⟨hk.1.2.2.1, ⟨hk.2, ⟨hk.1.1, ⟨hk.1.2.1, hk.1.2.2.2⟩⟩⟩⟩)⟩, ⟨qR HO192.out⟩, ⟨qR HO197.out⟩, ⟨qR HO_187003.out⟩, ⟨by (with_reducible repeat (first | apply Kd.N_alloc | apply Kd.N_drewN | apply Kd.N_drew)); exact Kd.N_mono HO_187004.out (fun _ hk => ⟨hk.1.1, ⟨hk.1.2.2.1, ⟨hk.2, ⟨hk.1.2.1, hk.1.2.2.2⟩⟩⟩⟩)⟩, ⟨qK BK186.out⟩, ⟨by repeat (first | (with_reducible first | exact HB.out | apply below_alloc | apply pw_below_drewN | apply below_drew1 | refine below_set ?_ GE186.out) | exact HB.out)⟩⟩
               ·
                rw [if_neg c26] at H
                exact absurd H (by simp)
              ·
               rw [if_neg c25] at H
               exact absurd H (by simp)
             ·
              rw [if_neg c24] at H
              have c24b0 : (((rd_T44 t170 x11_1).f0) == 1) = false := beq_eq_false_iff_ne.mpr c24
              have c24b1 : (((rd_T44 t170 x11_1).f0) != 1) = true := bne_iff_ne.mpr c24
              by_cases c30 : x10_1.size + (strOfNums ((rd_T44 t170 x11_1).f3)).size ≤ 9223372036854775807
              ·
               rw [if_pos c30] at H
               have c30b0 := eq_true c30
               have c30b1 : decide (x10_1.size + (strOfNums ((rd_T44 t170 x11_1).f3)).size ≤ 9223372036854775807) = true := decide_eq_true c30
               try have c30b2 : (9223372036854775807 < x10_1.size + (strOfNums ((rd_T44 t170 x11_1).f3)).size) = False := eq_false (Nat.not_lt.2 c30)
               have H' := qM H
               clear H
               have p189 : 0 ≤ (x11_1 : Int) := qD
               have q189 : x11_1 < (t170.length : Int) := qD
               obtain ⟨ad189, A189_3, c189_3, e189, hx189_0, hx189_1, hx189_2, hx189_3, hx189_4, hl189_3, hi189_3⟩ := at_T44 (Kd.N_reads' HO_3.out).2.2 x11_1 p189 q189
               cases e189
               obtain ⟨ce189, hce189, hMe189, hcc189⟩ := Kd.N_get HO_3.out z44 x11_1 p189 (by first | exact q189 | exact qD | (have e_ := (Kd.N_reads' HO_3.out).1; omega))
               obtain ⟨ua189_3, uc189_3, rfl, ul189_3, ge189_3⟩ := k44_openF hMe189
               have hv189_3 := hcc189 3 _ rfl
               rw [add_field _ _ 3 (by omega)] at hv189_3
               replace hv189_3 := qI (hv189_3.symm.trans hx189_3)
               injection hv189_3 with hva_ hvn_ hvc_
               rw [hva_] at ge189_3
               rw [hvc_] at ul189_3
               have HL189_3 := qM (show Kd.V (Kd.int .u8) 5 _ w.heap.size _ _ ((rd_T44 t170 x11_1).f3) from Kd.V_mk ul189_3 ge189_3)
               clear hva_ hvn_ hvc_ ge189_3 ul189_3; clear hcc189 hce189
               have HR189_3 := qM hi189_3
               have HC189_3 := qM hl189_3
               clear hi189_3 hl189_3
               replace p189 := eq_true p189
               replace q189 := eq_true q189
               go_wp2_with (first | ((with_reducible refine gate_builtin (b := .append) (xs := #[.tmp 65, .tmp 71]) rfl ?_); (try (refine gate_guard (by rfl) ?_; dsimp only)); at_builtin; refine Kd.R_append Kd.string (w0 := w) w.heap.size rfl (.tmp 65) (.tmp 71) 23 9 (.string ⟨#[]⟩) 16 rfl Tryd.underlying23 info9 rfl (by decide) (by omega) u8 x8_1 ((rd_T44 t170 x11_1).f1) [.string ((rd_T44 t170 x11_1).f1)] (fun _ => True) (fun _ => False) rfl rfl ?aP (fun _ hk => hk.elim) ?aF ?aO ?aB ?aS ?aL ?_; (case aP => exact rfl); (case aB => exact (by repeat (first | (with_reducible first | exact HB.out | apply below_alloc | apply pw_below_drewN | apply below_drew1 | refine below_set ?_ GE186.out) | exact HB.out))); (case aF => exact (fun _ _ => trivial)); (case aO => exact (qR HO_8.out)); (case aS => exact (below_size (by repeat (first | (with_reducible first | exact HB.out | apply below_alloc | apply pw_below_drewN | apply below_drew1 | refine below_set ?_ GE186.out) | exact HB.out)))); (case aL => have := LMc23.out; omega); intro v191 w31 ho hb hg hat; rw [← Ny190.out] at ho; have n0_ := qM (Kd.N_afterv (ok := (fun k_ => some k_ ≠ (u9 : Value).ownBlock ∧ some k_ ≠ (.slice Ao14 t178.length co14 : Value).ownBlock ∧ some k_ ≠ (.slice Ao15 t181.length co15 : Value).ownBlock ∧ k_ ≠ gb186)) (by (with_reducible repeat (first | apply Kd.N_alloc | apply Kd.N_drewN | apply Kd.N_drew)); exact Kd.N_mono HO_3.out (fun _ hk => ⟨⟨hk.2.1, ⟨hk.2.2.1, ⟨hk.2.2.2.1, hk.2.2.2.2⟩⟩⟩, hk.1⟩)) hg hat); have n1_ := qM (Kd.R_over' (qR HO_9.out) (Kd.R_typed (qR HO_8.out)) (by decide) hg); have n2_ := qM (Kd.R_over' (qR HO_187003.out) (Kd.R_typed (qR HO_8.out)) (by decide) hg); have n3_ := qM (Kd.N_afterv (ok := (fun k_ => some k_ ≠ (.slice (some ad189) t170.length co10 : Value).ownBlock ∧ some k_ ≠ (u9 : Value).ownBlock ∧ some k_ ≠ (.slice Ao14 t178.length co14 : Value).ownBlock ∧ k_ ≠ gb186)) (by (with_reducible repeat (first | apply Kd.N_alloc | apply Kd.N_drewN | apply Kd.N_drew)); exact Kd.N_mono HO_187004.out (fun _ hk => ⟨⟨hk.1, ⟨hk.2.2.1, ⟨hk.2.2.2.1, hk.2.2.2.2⟩⟩⟩, hk.2.1⟩)) hg hat); have n4_ := qM (blk_grown (g := gb186) (o := .cells #[.int .i64 t175, .string t176, .int .i64 t177, .slice Ao14 t178.length co14, .slice Ao15 t181.length co15] 28 (0, 0)) (qK BK186.out) hg (Kd.R_ne HO_8.out BK186.out (by decide))); have n5_ := qM (Kd.V_afterv (ok := (fun k_ => some k_ ≠ (.slice (some ad189) t170.length co10 : Value).ownBlock ∧ some k_ ≠ (u9 : Value).ownBlock ∧ some k_ ≠ (.slice Ao14 t178.length co14 : Value).ownBlock ∧ some k_ ≠ (.slice Ao15 t181.length co15 : Value).ownBlock ∧ k_ ≠ gb186)) (by (with_reducible repeat (first | apply Kd.V_alloc | apply Kd.V_drewN | apply Kd.V_drew)); exact Kd.V_mono HL189_3.out (fun _ hk => ⟨⟨hk.2, ⟨hk.1.2.1, ⟨hk.1.2.2.1, ⟨hk.1.2.2.2.1, hk.1.2.2.2.2⟩⟩⟩⟩, hk.1.1⟩)) hg hat); have n6_ := qM (hb); have n7_ := qM (ho); clear HO_3; clear HO_9; clear HO_187003; clear HO_187004; clear BK186; clear HL189_3; clear HB; clear HO_8; have HO_3 := n0_; have HO_9 := n1_; have HO_187003 := n2_; have HO_187004 := n3_; have BK186 := n4_; have HL189_3 := n5_; have HB := n6_; have HO192 := n7_; clear n0_ n1_ n2_ n3_ n4_ n5_ n6_ n7_; clear ho hb hg hat; have p193 : 0 ≤ (x11_1 : Int) := qD; have q193 : x11_1 < (t170.length : Int) := qD; obtain ⟨ad193, A193_3, c193_3, e193, hx193_0, hx193_1, hx193_2, hx193_3, hx193_4, hl193_3, hi193_3⟩ := at_T44 (Kd.N_reads' HO_3.out).2.2 x11_1 p193 q193; obtain rfl : ad189 = ad193 := (by injection e193); obtain ⟨ce193, hce193, hMe193, hcc193⟩ := Kd.N_get HO_3.out z44 x11_1 p193 (by first | exact q193 | exact qD | (have e_ := (Kd.N_reads' HO_3.out).1; omega)); obtain ⟨ua193_3, uc193_3, rfl, ul193_3, ge193_3⟩ := k44_openF hMe193; have hv193_3 := hcc193 3 _ rfl; rw [add_field _ _ 3 (by omega)] at hv193_3; replace hv193_3 := qI (hv193_3.symm.trans hx193_3); injection hv193_3 with hva_ hvn_ hvc_; rw [hva_] at ge193_3; rw [hvc_] at ul193_3; have HL193_3 := qM (show Kd.V (Kd.int .u8) 5 _ w.heap.size _ _ ((rd_T44 t170 x11_1).f3) from Kd.V_mk ul193_3 ge193_3); clear hva_ hvn_ hvc_ ge193_3 ul193_3; clear hcc193 hce193; have HR193_3 := qM hi193_3; have HC193_3 := qM hl193_3; clear hi193_3 hl193_3; replace p193 := eq_true p193; replace q193 := eq_true q193; have p199 : 0 ≤ (x11_1 : Int) := qD; have q199 : x11_1 < (t170.length : Int) := qD; obtain ⟨ad199, A199_3, c199_3, e199, hx199_0, hx199_1, hx199_2, hx199_3, hx199_4, hl199_3, hi199_3⟩ := at_T44 (Kd.N_reads' HO_3.out).2.2 x11_1 p199 q199; obtain rfl : ad189 = ad199 := (by injection e199); obtain ⟨ce199, hce199, hMe199, hcc199⟩ := Kd.N_get HO_3.out z44 x11_1 p199 (by first | exact q199 | exact qD | (have e_ := (Kd.N_reads' HO_3.out).1; omega)); obtain ⟨ua199_3, uc199_3, rfl, ul199_3, ge199_3⟩ := k44_openF hMe199; have hv199_3 := hcc199 3 _ rfl; rw [add_field _ _ 3 (by omega)] at hv199_3; replace hv199_3 := qI (hv199_3.symm.trans hx199_3); injection hv199_3 with hva_ hvn_ hvc_; rw [hva_] at ge199_3; rw [hvc_] at ul199_3; have HL199_3 := qM (show Kd.V (Kd.int .u8) 5 _ w.heap.size _ _ ((rd_T44 t170 x11_1).f3) from Kd.V_mk ul199_3 ge199_3); clear hva_ hvn_ hvc_ ge199_3 ul199_3; clear hcc199 hce199; have HR199_3 := qM hi199_3; have HC199_3 := qM hl199_3; clear hi199_3 hl199_3; replace p199 := eq_true p199; replace q199 := eq_true q199; have ea_ := qI (hx193_3.symm.trans hx199_3); injection ea_ with ea_ en_ ec_; subst ea_; subst ec_; clear en_; have hcv32 := Kd.C_string (P := Tryd.prog) (A := A193_3) (c := c193_3) Tryd.underlying25 Tryd.underlying5 Tryd.underlying9 (by repeat (first | (with_reducible exact HR199_3.out) | (with_reducible refine Kd.C_alloc ?_ _) | (with_reducible refine Kd.C_drewN ?_ _) | (with_reducible refine Kd.C_drew ?_) | exact HR199_3.out))))
               repeat (go_quiet (first | ((with_reducible refine gate_builtin (b := .append) (xs := #[.tmp 65, .tmp 71]) rfl ?_); (try (refine gate_guard (by rfl) ?_; dsimp only)); at_builtin; refine Kd.R_append Kd.string (w0 := w) w.heap.size rfl (.tmp 65) (.tmp 71) 23 9 (.string ⟨#[]⟩) 16 rfl Tryd.underlying23 info9 rfl (by decide) (by omega) u8 x8_1 ((rd_T44 t170 x11_1).f1) [.string ((rd_T44 t170 x11_1).f1)] (fun _ => True) (fun _ => False) rfl rfl ?aP (fun _ hk => hk.elim) ?aF ?aO ?aB ?aS ?aL ?_; (case aP => exact rfl); (case aB => exact (by repeat (first | (with_reducible first | exact HB.out | apply below_alloc | apply pw_below_drewN | apply below_drew1 | refine below_set ?_ GE186.out) | exact HB.out))); (case aF => exact (fun _ _ => trivial)); (case aO => exact (qR HO_8.out)); (case aS => exact (below_size (by repeat (first | (with_reducible first | exact HB.out | apply below_alloc | apply pw_below_drewN | apply below_drew1 | refine below_set ?_ GE186.out) | exact HB.out)))); (case aL => have := LMc23.out; omega); intro v191 w31 ho hb hg hat; rw [← Ny190.out] at ho; have n0_ := qM (Kd.N_afterv (ok := (fun k_ => some k_ ≠ (u9 : Value).ownBlock ∧ some k_ ≠ (.slice Ao14 t178.length co14 : Value).ownBlock ∧ some k_ ≠ (.slice Ao15 t181.length co15 : Value).ownBlock ∧ k_ ≠ gb186)) (by (with_reducible repeat (first | apply Kd.N_alloc | apply Kd.N_drewN | apply Kd.N_drew)); exact Kd.N_mono HO_3.out (fun _ hk => ⟨⟨hk.2.1, ⟨hk.2.2.1, ⟨hk.2.2.2.1, hk.2.2.2.2⟩⟩⟩, hk.1⟩)) hg hat); have n1_ := qM (Kd.R_over' (qR HO_9.out) (Kd.R_typed (qR HO_8.out)) (by decide) hg); have n2_ := qM (Kd.R_over' (qR HO_187003.out) (Kd.R_typed (qR HO_8.out)) (by decide) hg); have n3_ := qM (Kd.N_afterv (ok := (fun k_ => some k_ ≠ (.slice (some ad189) t170.length co10 : Value).ownBlock ∧ some k_ ≠ (u9 : Value).ownBlock ∧ some k_ ≠ (.slice Ao14 t178.length co14 : Value).ownBlock ∧ k_ ≠ gb186)) (by (with_reducible repeat (first | apply Kd.N_alloc | apply Kd.N_drewN | apply Kd.N_drew)); exact Kd.N_mono HO_187004.out (fun _ hk => ⟨⟨hk.1, ⟨hk.2.2.1, ⟨hk.2.2.2.1, hk.2.2.2.2⟩⟩⟩, hk.2.1⟩)) hg hat); have n4_ := qM (blk_grown (g := gb186) (o := .cells #[.int .i64 t175, .string t176, .int .i64 t177, .slice Ao14 t178.length co14, .slice Ao15 t181.length co15] 28 (0, 0)) (qK BK186.out) hg (Kd.R_ne HO_8.out BK186.out (by decide))); have n5_ := qM (Kd.V_afterv (ok := (fun k_ => some k_ ≠ (.slice (some ad189) t170.length co10 : Value).ownBlock ∧ some k_ ≠ (u9 : Value).ownBlock ∧ some k_ ≠ (.slice Ao14 t178.length co14 : Value).ownBlock ∧ some k_ ≠ (.slice Ao15 t181.length co15 : Value).ownBlock ∧ k_ ≠ gb186)) (by (with_reducible repeat (first | apply Kd.V_alloc | apply Kd.V_drewN | apply Kd.V_drew)); exact Kd.V_mono HL189_3.out (fun _ hk => ⟨⟨hk.2, ⟨hk.1.2.1, ⟨hk.1.2.2.1, ⟨hk.1.2.2.2.1, hk.1.2.2.2.2⟩⟩⟩⟩, hk.1.1⟩)) hg hat); have n6_ := qM (hb); have n7_ := qM (ho); clear HO_3; clear HO_9; clear HO_187003; clear HO_187004; clear BK186; clear HL189_3; clear HB; clear HO_8; have HO_3 := n0_; have HO_9 := n1_; have HO_187003 := n2_; have HO_187004 := n3_; have BK186 := n4_; have HL189_3 := n5_; have HB := n6_; have HO192 := n7_; clear n0_ n1_ n2_ n3_ n4_ n5_ n6_ n7_; clear ho hb hg hat; have p193 : 0 ≤ (x11_1 : Int) := qD; have q193 : x11_1 < (t170.length : Int) := qD; obtain ⟨ad193, A193_3, c193_3, e193, hx193_0, hx193_1, hx193_2, hx193_3, hx193_4, hl193_3, hi193_3⟩ := at_T44 (Kd.N_reads' HO_3.out).2.2 x11_1 p193 q193; obtain rfl : ad189 = ad193 := (by injection e193); obtain ⟨ce193, hce193, hMe193, hcc193⟩ := Kd.N_get HO_3.out z44 x11_1 p193 (by first | exact q193 | exact qD | (have e_ := (Kd.N_reads' HO_3.out).1; omega)); obtain ⟨ua193_3, uc193_3, rfl, ul193_3, ge193_3⟩ := k44_openF hMe193; have hv193_3 := hcc193 3 _ rfl; rw [add_field _ _ 3 (by omega)] at hv193_3; replace hv193_3 := qI (hv193_3.symm.trans hx193_3); injection hv193_3 with hva_ hvn_ hvc_; rw [hva_] at ge193_3; rw [hvc_] at ul193_3; have HL193_3 := qM (show Kd.V (Kd.int .u8) 5 _ w.heap.size _ _ ((rd_T44 t170 x11_1).f3) from Kd.V_mk ul193_3 ge193_3); clear hva_ hvn_ hvc_ ge193_3 ul193_3; clear hcc193 hce193; have HR193_3 := qM hi193_3; have HC193_3 := qM hl193_3; clear hi193_3 hl193_3; replace p193 := eq_true p193; replace q193 := eq_true q193; have p199 : 0 ≤ (x11_1 : Int) := qD; have q199 : x11_1 < (t170.length : Int) := qD; obtain ⟨ad199, A199_3, c199_3, e199, hx199_0, hx199_1, hx199_2, hx199_3, hx199_4, hl199_3, hi199_3⟩ := at_T44 (Kd.N_reads' HO_3.out).2.2 x11_1 p199 q199; obtain rfl : ad189 = ad199 := (by injection e199); obtain ⟨ce199, hce199, hMe199, hcc199⟩ := Kd.N_get HO_3.out z44 x11_1 p199 (by first | exact q199 | exact qD | (have e_ := (Kd.N_reads' HO_3.out).1; omega)); obtain ⟨ua199_3, uc199_3, rfl, ul199_3, ge199_3⟩ := k44_openF hMe199; have hv199_3 := hcc199 3 _ rfl; rw [add_field _ _ 3 (by omega)] at hv199_3; replace hv199_3 := qI (hv199_3.symm.trans hx199_3); injection hv199_3 with hva_ hvn_ hvc_; rw [hva_] at ge199_3; rw [hvc_] at ul199_3; have HL199_3 := qM (show Kd.V (Kd.int .u8) 5 _ w.heap.size _ _ ((rd_T44 t170 x11_1).f3) from Kd.V_mk ul199_3 ge199_3); clear hva_ hvn_ hvc_ ge199_3 ul199_3; clear hcc199 hce199; have HR199_3 := qM hi199_3; have HC199_3 := qM hl199_3; clear hi199_3 hl199_3; replace p199 := eq_true p199; replace q199 := eq_true q199; have ea_ := qI (hx193_3.symm.trans hx199_3); injection ea_ with ea_ en_ ec_; subst ea_; subst ec_; clear en_; have hcv32 := Kd.C_string (P := Tryd.prog) (A := A193_3) (c := c193_3) Tryd.underlying25 Tryd.underlying5 Tryd.underlying9 (by repeat (first | (with_reducible exact HR199_3.out) | (with_reducible refine Kd.C_alloc ?_ _) | (with_reducible refine Kd.C_drewN ?_ _) | (with_reducible refine Kd.C_drew ?_) | exact HR199_3.out)))); try go_wp2_with (first | ((with_reducible refine gate_builtin (b := .append) (xs := #[.tmp 65, .tmp 71]) rfl ?_); (try (refine gate_guard (by rfl) ?_; dsimp only)); at_builtin; refine Kd.R_append Kd.string (w0 := w) w.heap.size rfl (.tmp 65) (.tmp 71) 23 9 (.string ⟨#[]⟩) 16 rfl Tryd.underlying23 info9 rfl (by decide) (by omega) u8 x8_1 ((rd_T44 t170 x11_1).f1) [.string ((rd_T44 t170 x11_1).f1)] (fun _ => True) (fun _ => False) rfl rfl ?aP (fun _ hk => hk.elim) ?aF ?aO ?aB ?aS ?aL ?_; (case aP => exact rfl); (case aB => exact (by repeat (first | (with_reducible first | exact HB.out | apply below_alloc | apply pw_below_drewN | apply below_drew1 | refine below_set ?_ GE186.out) | exact HB.out))); (case aF => exact (fun _ _ => trivial)); (case aO => exact (qR HO_8.out)); (case aS => exact (below_size (by repeat (first | (with_reducible first | exact HB.out | apply below_alloc | apply pw_below_drewN | apply below_drew1 | refine below_set ?_ GE186.out) | exact HB.out)))); (case aL => have := LMc23.out; omega); intro v191 w31 ho hb hg hat; rw [← Ny190.out] at ho; have n0_ := qM (Kd.N_afterv (ok := (fun k_ => some k_ ≠ (u9 : Value).ownBlock ∧ some k_ ≠ (.slice Ao14 t178.length co14 : Value).ownBlock ∧ some k_ ≠ (.slice Ao15 t181.length co15 : Value).ownBlock ∧ k_ ≠ gb186)) (by (with_reducible repeat (first | apply Kd.N_alloc | apply Kd.N_drewN | apply Kd.N_drew)); exact Kd.N_mono HO_3.out (fun _ hk => ⟨⟨hk.2.1, ⟨hk.2.2.1, ⟨hk.2.2.2.1, hk.2.2.2.2⟩⟩⟩, hk.1⟩)) hg hat); have n1_ := qM (Kd.R_over' (qR HO_9.out) (Kd.R_typed (qR HO_8.out)) (by decide) hg); have n2_ := qM (Kd.R_over' (qR HO_187003.out) (Kd.R_typed (qR HO_8.out)) (by decide) hg); have n3_ := qM (Kd.N_afterv (ok := (fun k_ => some k_ ≠ (.slice (some ad189) t170.length co10 : Value).ownBlock ∧ some k_ ≠ (u9 : Value).ownBlock ∧ some k_ ≠ (.slice Ao14 t178.length co14 : Value).ownBlock ∧ k_ ≠ gb186)) (by (with_reducible repeat (first | apply Kd.N_alloc | apply Kd.N_drewN | apply Kd.N_drew)); exact Kd.N_mono HO_187004.out (fun _ hk => ⟨⟨hk.1, ⟨hk.2.2.1, ⟨hk.2.2.2.1, hk.2.2.2.2⟩⟩⟩, hk.2.1⟩)) hg hat); have n4_ := qM (blk_grown (g := gb186) (o := .cells #[.int .i64 t175, .string t176, .int .i64 t177, .slice Ao14 t178.length co14, .slice Ao15 t181.length co15] 28 (0, 0)) (qK BK186.out) hg (Kd.R_ne HO_8.out BK186.out (by decide))); have n5_ := qM (Kd.V_afterv (ok := (fun k_ => some k_ ≠ (.slice (some ad189) t170.length co10 : Value).ownBlock ∧ some k_ ≠ (u9 : Value).ownBlock ∧ some k_ ≠ (.slice Ao14 t178.length co14 : Value).ownBlock ∧ some k_ ≠ (.slice Ao15 t181.length co15 : Value).ownBlock ∧ k_ ≠ gb186)) (by (with_reducible repeat (first | apply Kd.V_alloc | apply Kd.V_drewN | apply Kd.V_drew)); exact Kd.V_mono HL189_3.out (fun _ hk => ⟨⟨hk.2, ⟨hk.1.2.1, ⟨hk.1.2.2.1, ⟨hk.1.2.2.2.1, hk.1.2.2.2.2⟩⟩⟩⟩, hk.1.1⟩)) hg hat); have n6_ := qM (hb); have n7_ := qM (ho); clear HO_3; clear HO_9; clear HO_187003; clear HO_187004; clear BK186; clear HL189_3; clear HB; clear HO_8; have HO_3 := n0_; have HO_9 := n1_; have HO_187003 := n2_; have HO_187004 := n3_; have BK186 := n4_; have HL189_3 := n5_; have HB := n6_; have HO192 := n7_; clear n0_ n1_ n2_ n3_ n4_ n5_ n6_ n7_; clear ho hb hg hat; have p193 : 0 ≤ (x11_1 : Int) := qD; have q193 : x11_1 < (t170.length : Int) := qD; obtain ⟨ad193, A193_3, c193_3, e193, hx193_0, hx193_1, hx193_2, hx193_3, hx193_4, hl193_3, hi193_3⟩ := at_T44 (Kd.N_reads' HO_3.out).2.2 x11_1 p193 q193; obtain rfl : ad189 = ad193 := (by injection e193); obtain ⟨ce193, hce193, hMe193, hcc193⟩ := Kd.N_get HO_3.out z44 x11_1 p193 (by first | exact q193 | exact qD | (have e_ := (Kd.N_reads' HO_3.out).1; omega)); obtain ⟨ua193_3, uc193_3, rfl, ul193_3, ge193_3⟩ := k44_openF hMe193; have hv193_3 := hcc193 3 _ rfl; rw [add_field _ _ 3 (by omega)] at hv193_3; replace hv193_3 := qI (hv193_3.symm.trans hx193_3); injection hv193_3 with hva_ hvn_ hvc_; rw [hva_] at ge193_3; rw [hvc_] at ul193_3; have HL193_3 := qM (show Kd.V (Kd.int .u8) 5 _ w.heap.size _ _ ((rd_T44 t170 x11_1).f3) from Kd.V_mk ul193_3 ge193_3); clear hva_ hvn_ hvc_ ge193_3 ul193_3; clear hcc193 hce193; have HR193_3 := qM hi193_3; have HC193_3 := qM hl193_3; clear hi193_3 hl193_3; replace p193 := eq_true p193; replace q193 := eq_true q193; have p199 : 0 ≤ (x11_1 : Int) := qD; have q199 : x11_1 < (t170.length : Int) := qD; obtain ⟨ad199, A199_3, c199_3, e199, hx199_0, hx199_1, hx199_2, hx199_3, hx199_4, hl199_3, hi199_3⟩ := at_T44 (Kd.N_reads' HO_3.out).2.2 x11_1 p199 q199; obtain rfl : ad189 = ad199 := (by injection e199); obtain ⟨ce199, hce199, hMe199, hcc199⟩ := Kd.N_get HO_3.out z44 x11_1 p199 (by first | exact q199 | exact qD | (have e_ := (Kd.N_reads' HO_3.out).1; omega)); obtain ⟨ua199_3, uc199_3, rfl, ul199_3, ge199_3⟩ := k44_openF hMe199; have hv199_3 := hcc199 3 _ rfl; rw [add_field _ _ 3 (by omega)] at hv199_3; replace hv199_3 := qI (hv199_3.symm.trans hx199_3); injection hv199_3 with hva_ hvn_ hvc_; rw [hva_] at ge199_3; rw [hvc_] at ul199_3; have HL199_3 := qM (show Kd.V (Kd.int .u8) 5 _ w.heap.size _ _ ((rd_T44 t170 x11_1).f3) from Kd.V_mk ul199_3 ge199_3); clear hva_ hvn_ hvc_ ge199_3 ul199_3; clear hcc199 hce199; have HR199_3 := qM hi199_3; have HC199_3 := qM hl199_3; clear hi199_3 hl199_3; replace p199 := eq_true p199; replace q199 := eq_true q199; have ea_ := qI (hx193_3.symm.trans hx199_3); injection ea_ with ea_ en_ ec_; subst ea_; subst ec_; clear en_; have hcv32 := Kd.C_string (P := Tryd.prog) (A := A193_3) (c := c193_3) Tryd.underlying25 Tryd.underlying5 Tryd.underlying9 (by repeat (first | (with_reducible exact HR199_3.out) | (with_reducible refine Kd.C_alloc ?_ _) | (with_reducible refine Kd.C_drewN ?_ _) | (with_reducible refine Kd.C_drew ?_) | exact HR199_3.out)))))
               go_roundg kj16
               case measure => have := HK1.out; have := HJ16.out; omega
               case rel => exact ⟨(y190), (x9_1), (x10_1 ++ (strOfNums ((rd_T44 t170 x11_1).f3))), (wrap64 (x11_1 + 1)), qS, qS, H', ⟨by have := HK1.out; have := HJ16.out; omega⟩, ⟨by (with_reducible repeat (first | apply Kd.N_alloc | apply Kd.N_drewN | apply Kd.N_drew)); exact Kd.N_mono HO_3.out (fun _ hk => ⟨hk.2, ⟨hk.1.1, ⟨hk.1.2.1, ⟨hk.1.2.2.1, hk.1.2.2.2⟩⟩⟩⟩)⟩, ⟨qR HO192.out⟩, ⟨qR HO_9.out⟩, ⟨qR HO_187003.out⟩, ⟨by (with_reducible repeat (first | apply Kd.N_alloc | apply Kd.N_drewN | apply Kd.N_drew)); exact Kd.N_mono HO_187004.out (fun _ hk => ⟨hk.1.1, ⟨hk.2, ⟨hk.1.2.1, ⟨hk.1.2.2.1, hk.1.2.2.2⟩⟩⟩⟩)⟩, ⟨qK BK186.out⟩, ⟨by repeat (first | (with_reducible first | exact HB.out | apply below_alloc | apply pw_below_drewN | apply below_drew1 | refine below_set ?_ GE186.out) | exact HB.out)⟩⟩
              ·
               rw [if_neg c30] at H
               exact absurd H (by simp)
            ·
             rw [if_neg c23] at H
             exact absurd H (by simp)
           ·
            rw [if_neg c22] at H
            exact absurd H (by simp)
          ·
           rw [if_neg c21] at H
           exact absurd H (by simp)
         ·
          replace c20 := Bool.eq_false_iff.mpr c20
          subst c20
          have H1 : (if 0 ≤ x11_1 then (if x11_1 < (t170.length : Int) then (if ((rd_T44 t170 x11_1).f0) = 1 then (if x9_1.length < 17592186044416 then (if x10_1.size + (strOfNums ((rd_T44 t170 x11_1).f3)).size ≤ 9223372036854775807 then (rookerylaw16_GramYields.l0 kj16 t170 x8_1 (x9_1 ++ [(rd_T44 t170 x11_1).f2]) (x10_1 ++ (strOfNums ((rd_T44 t170 x11_1).f3))) (wrap64 (x11_1 + 1)) t175 t176 t177 t178 t181) else (none)) else (none)) else (if x10_1.size + (strOfNums ((rd_T44 t170 x11_1).f3)).size ≤ 9223372036854775807 then (rookerylaw16_GramYields.l0 kj16 t170 x8_1 x9_1 (x10_1 ++ (strOfNums ((rd_T44 t170 x11_1).f3))) (wrap64 (x11_1 + 1)) t175 t176 t177 t178 t181) else (none))) else (none)) else (none)) = some r := by rw [if_neg (show ¬ (false = true) by decide)] at H; exact H
          clear H
          have H := H1
          clear H1
          by_cases c33 : 0 ≤ x11_1
          ·
           rw [if_pos c33] at H
           have c33b0 : decide (0 ≤ x11_1) = true := decide_eq_true c33
           clear c33
           by_cases c34 : x11_1 < (t170.length : Int)
           ·
            rw [if_pos c34] at H
            have c34b0 : decide (x11_1 < (t170.length : Int)) = true := decide_eq_true c34
            clear c34
            by_cases c35 : ((rd_T44 t170 x11_1).f0) = 1
            ·
             rw [if_pos c35] at H
             have c35b0 : (((rd_T44 t170 x11_1).f0) == 1) = true := beq_iff_eq.mpr c35
             have c35b1 : (((rd_T44 t170 x11_1).f0) != 1) = false := bne_eq_false_iff_eq.mpr c35
             clear c35
             by_cases c36 : x9_1.length < 17592186044416
             ·
              rw [if_pos c36] at H
              have LMc36 := qM c36
              clear c36
              obtain ⟨y202, hy202⟩ : ∃ y_ : List Int, y_ = (x9_1 ++ [(rd_T44 t170 x11_1).f2]) := ⟨_, rfl⟩
              replace H : (if x10_1.size + (strOfNums ((rd_T44 t170 x11_1).f3)).size ≤ 9223372036854775807 then (rookerylaw16_GramYields.l0 kj16 t170 x8_1 y202 (x10_1 ++ (strOfNums ((rd_T44 t170 x11_1).f3))) (wrap64 (x11_1 + 1)) t175 t176 t177 t178 t181) else (none)) = some r := by first | (rw [hy202]; with_reducible exact H) | (have H2_ := (Option.bind_some _ _).symm.trans H; rw [hy202]; with_reducible exact H2_) | (have H2_ := (Option.bind_some _ _).symm.trans H; with_reducible exact H2_) | with_reducible exact H | (rw [hy202]; exact H) | exact H
              have Ny202 := qM hy202
              clear hy202
              by_cases c37 : x10_1.size + (strOfNums ((rd_T44 t170 x11_1).f3)).size ≤ 9223372036854775807
              ·
               rw [if_pos c37] at H
               have c37b0 := eq_true c37
               have c37b1 : decide (x10_1.size + (strOfNums ((rd_T44 t170 x11_1).f3)).size ≤ 9223372036854775807) = true := decide_eq_true c37
               try have c37b2 : (9223372036854775807 < x10_1.size + (strOfNums ((rd_T44 t170 x11_1).f3)).size) = False := eq_false (Nat.not_lt.2 c37)
               have H' := qM H
               clear H
               have p200 : 0 ≤ (x11_1 : Int) := qD
               have q200 : x11_1 < (t170.length : Int) := qD
               obtain ⟨ad200, A200_3, c200_3, e200, hx200_0, hx200_1, hx200_2, hx200_3, hx200_4, hl200_3, hi200_3⟩ := at_T44 (Kd.N_reads' HO_3.out).2.2 x11_1 p200 q200
               cases e200
               obtain ⟨ce200, hce200, hMe200, hcc200⟩ := Kd.N_get HO_3.out z44 x11_1 p200 (by first | exact q200 | exact qD | (have e_ := (Kd.N_reads' HO_3.out).1; omega))
               obtain ⟨ua200_3, uc200_3, rfl, ul200_3, ge200_3⟩ := k44_openF hMe200
               have hv200_3 := hcc200 3 _ rfl
               rw [add_field _ _ 3 (by omega)] at hv200_3
               replace hv200_3 := qI (hv200_3.symm.trans hx200_3)
               injection hv200_3 with hva_ hvn_ hvc_
               rw [hva_] at ge200_3
               rw [hvc_] at ul200_3
               have HL200_3 := qM (show Kd.V (Kd.int .u8) 5 _ w.heap.size _ _ ((rd_T44 t170 x11_1).f3) from Kd.V_mk ul200_3 ge200_3)
               clear hva_ hvn_ hvc_ ge200_3 ul200_3; clear hcc200 hce200
               have HR200_3 := qM hi200_3
               have HC200_3 := qM hl200_3
               clear hi200_3 hl200_3
               replace p200 := eq_true p200
               replace q200 := eq_true q200
               have p201 : 0 ≤ (x11_1 : Int) := qD
               have q201 : x11_1 < (t170.length : Int) := qD
               obtain ⟨ad201, A201_3, c201_3, e201, hx201_0, hx201_1, hx201_2, hx201_3, hx201_4, hl201_3, hi201_3⟩ := at_T44 (Kd.N_reads' HO_3.out).2.2 x11_1 p201 q201
               obtain rfl : ad200 = ad201 := (by injection e201)
               obtain ⟨ce201, hce201, hMe201, hcc201⟩ := Kd.N_get HO_3.out z44 x11_1 p201 (by first | exact q201 | exact qD | (have e_ := (Kd.N_reads' HO_3.out).1; omega))
               obtain ⟨ua201_3, uc201_3, rfl, ul201_3, ge201_3⟩ := k44_openF hMe201
               have hv201_3 := hcc201 3 _ rfl
               rw [add_field _ _ 3 (by omega)] at hv201_3
               replace hv201_3 := qI (hv201_3.symm.trans hx201_3)
               injection hv201_3 with hva_ hvn_ hvc_
               rw [hva_] at ge201_3
               rw [hvc_] at ul201_3
               have HL201_3 := qM (show Kd.V (Kd.int .u8) 5 _ w.heap.size _ _ ((rd_T44 t170 x11_1).f3) from Kd.V_mk ul201_3 ge201_3)
               clear hva_ hvn_ hvc_ ge201_3 ul201_3; clear hcc201 hce201
               have HR201_3 := qM hi201_3
               have HC201_3 := qM hl201_3
               clear hi201_3 hl201_3
               replace p201 := eq_true p201
               replace q201 := eq_true q201
               have ea_ := qI (hx200_3.symm.trans hx201_3)
               injection ea_ with ea_ en_ ec_
               subst ea_
               subst ec_
               clear en_
               go_wp2_with (first | ((with_reducible refine gate_builtin (b := .append) (xs := #[.tmp 79, .tmp 85]) rfl ?_); (try (refine gate_guard (by rfl) ?_; dsimp only)); at_builtin; refine Kd.R_append (Kd.int .i64) (w0 := w) w.heap.size rfl (.tmp 79) (.tmp 85) 42 2 (.int .i64 0) 8 rfl Tryd.underlying42 info2 rfl (by decide) (by omega) u9 x9_1 ((rd_T44 t170 x11_1).f2) [.int .i64 ((rd_T44 t170 x11_1).f2)] (fun _ => True) (fun _ => False) rfl rfl ?aP (fun _ hk => hk.elim) ?aF ?aO ?aB ?aS ?aL ?_; (case aP => exact rfl); (case aB => exact (by repeat (first | (with_reducible first | exact HB.out | apply below_alloc | apply pw_below_drewN | apply below_drew1 | refine below_set ?_ GE186.out) | exact HB.out))); (case aF => exact (fun _ _ => trivial)); (case aO => exact (qR HO_9.out)); (case aS => exact (below_size (by repeat (first | (with_reducible first | exact HB.out | apply below_alloc | apply pw_below_drewN | apply below_drew1 | refine below_set ?_ GE186.out) | exact HB.out)))); (case aL => have := LMc36.out; omega); intro v203 w38 ho hb hg hat; rw [← Ny202.out] at ho; have n0_ := qM (Kd.N_afterv (ok := (fun k_ => some k_ ≠ (u8 : Value).ownBlock ∧ some k_ ≠ (.slice Ao14 t178.length co14 : Value).ownBlock ∧ some k_ ≠ (.slice Ao15 t181.length co15 : Value).ownBlock ∧ k_ ≠ gb186)) (by (with_reducible repeat (first | apply Kd.N_alloc | apply Kd.N_drewN | apply Kd.N_drew)); exact Kd.N_mono HO_3.out (fun _ hk => ⟨⟨hk.1, ⟨hk.2.2.1, ⟨hk.2.2.2.1, hk.2.2.2.2⟩⟩⟩, hk.2.1⟩)) hg hat); have n1_ := qM (Kd.R_over' (qR HO_8.out) (Kd.R_typed (qR HO_9.out)) (by decide) hg); have n2_ := qM (Kd.R_over' (qR HO_187003.out) (Kd.R_typed (qR HO_9.out)) (by decide) hg); have n3_ := qM (Kd.N_afterv (ok := (fun k_ => some k_ ≠ (.slice (some ad200) t170.length co10 : Value).ownBlock ∧ some k_ ≠ (u8 : Value).ownBlock ∧ some k_ ≠ (.slice Ao14 t178.length co14 : Value).ownBlock ∧ k_ ≠ gb186)) (by (with_reducible repeat (first | apply Kd.N_alloc | apply Kd.N_drewN | apply Kd.N_drew)); exact Kd.N_mono HO_187004.out (fun _ hk => ⟨⟨hk.1, ⟨hk.2.1, ⟨hk.2.2.2.1, hk.2.2.2.2⟩⟩⟩, hk.2.2.1⟩)) hg hat); have n4_ := qM (blk_grown (g := gb186) (o := .cells #[.int .i64 t175, .string t176, .int .i64 t177, .slice Ao14 t178.length co14, .slice Ao15 t181.length co15] 28 (0, 0)) (qK BK186.out) hg (Kd.R_ne HO_9.out BK186.out (by decide))); have n5_ := qM (Kd.V_afterv (ok := (fun k_ => some k_ ≠ (.slice (some ad200) t170.length co10 : Value).ownBlock ∧ some k_ ≠ (u8 : Value).ownBlock ∧ some k_ ≠ (.slice Ao14 t178.length co14 : Value).ownBlock ∧ some k_ ≠ (.slice Ao15 t181.length co15 : Value).ownBlock ∧ k_ ≠ gb186)) (by (with_reducible repeat (first | apply Kd.V_alloc | apply Kd.V_drewN | apply Kd.V_drew)); exact Kd.V_mono HL200_3.out (fun _ hk => ⟨⟨hk.2, ⟨hk.1.1, ⟨hk.1.2.2.1, ⟨hk.1.2.2.2.1, hk.1.2.2.2.2⟩⟩⟩⟩, hk.1.2.1⟩)) hg hat); have n6_ := qM (Kd.V_afterv (ok := (fun k_ => some k_ ≠ (.slice (some ad200) t170.length co10 : Value).ownBlock ∧ some k_ ≠ (u8 : Value).ownBlock ∧ some k_ ≠ (.slice Ao14 t178.length co14 : Value).ownBlock ∧ some k_ ≠ (.slice Ao15 t181.length co15 : Value).ownBlock ∧ k_ ≠ gb186)) (by (with_reducible repeat (first | apply Kd.V_alloc | apply Kd.V_drewN | apply Kd.V_drew)); exact Kd.V_mono HL201_3.out (fun _ hk => ⟨⟨hk.2, ⟨hk.1.1, ⟨hk.1.2.2.1, ⟨hk.1.2.2.2.1, hk.1.2.2.2.2⟩⟩⟩⟩, hk.1.2.1⟩)) hg hat); have n7_ := qM (hb); have n8_ := qM (ho); clear HO_3; clear HO_8; clear HO_187003; clear HO_187004; clear BK186; clear HL200_3; clear HL201_3; clear HB; clear HO_9; have HO_3 := n0_; have HO_8 := n1_; have HO_187003 := n2_; have HO_187004 := n3_; have BK186 := n4_; have HL200_3 := n5_; have HL201_3 := n6_; have HB := n7_; have HO204 := n8_; clear n0_ n1_ n2_ n3_ n4_ n5_ n6_ n7_ n8_; clear ho hb hg hat; have p205 : 0 ≤ (x11_1 : Int) := qD; have q205 : x11_1 < (t170.length : Int) := qD; obtain ⟨ad205, A205_3, c205_3, e205, hx205_0, hx205_1, hx205_2, hx205_3, hx205_4, hl205_3, hi205_3⟩ := at_T44 (Kd.N_reads' HO_3.out).2.2 x11_1 p205 q205; obtain rfl : ad200 = ad205 := (by injection e205); obtain ⟨ce205, hce205, hMe205, hcc205⟩ := Kd.N_get HO_3.out z44 x11_1 p205 (by first | exact q205 | exact qD | (have e_ := (Kd.N_reads' HO_3.out).1; omega)); obtain ⟨ua205_3, uc205_3, rfl, ul205_3, ge205_3⟩ := k44_openF hMe205; have hv205_3 := hcc205 3 _ rfl; rw [add_field _ _ 3 (by omega)] at hv205_3; replace hv205_3 := qI (hv205_3.symm.trans hx205_3); injection hv205_3 with hva_ hvn_ hvc_; rw [hva_] at ge205_3; rw [hvc_] at ul205_3; have HL205_3 := qM (show Kd.V (Kd.int .u8) 5 _ w.heap.size _ _ ((rd_T44 t170 x11_1).f3) from Kd.V_mk ul205_3 ge205_3); clear hva_ hvn_ hvc_ ge205_3 ul205_3; clear hcc205 hce205; have HR205_3 := qM hi205_3; have HC205_3 := qM hl205_3; clear hi205_3 hl205_3; replace p205 := eq_true p205; replace q205 := eq_true q205; have hcv39 := Kd.C_string (P := Tryd.prog) (A := A205_3) (c := c205_3) Tryd.underlying25 Tryd.underlying5 Tryd.underlying9 (by repeat (first | (with_reducible exact HR205_3.out) | (with_reducible refine Kd.C_alloc ?_ _) | (with_reducible refine Kd.C_drewN ?_ _) | (with_reducible refine Kd.C_drew ?_) | exact HR205_3.out))))
               repeat (go_quiet (first | ((with_reducible refine gate_builtin (b := .append) (xs := #[.tmp 79, .tmp 85]) rfl ?_); (try (refine gate_guard (by rfl) ?_; dsimp only)); at_builtin; refine Kd.R_append (Kd.int .i64) (w0 := w) w.heap.size rfl (.tmp 79) (.tmp 85) 42 2 (.int .i64 0) 8 rfl Tryd.underlying42 info2 rfl (by decide) (by omega) u9 x9_1 ((rd_T44 t170 x11_1).f2) [.int .i64 ((rd_T44 t170 x11_1).f2)] (fun _ => True) (fun _ => False) rfl rfl ?aP (fun _ hk => hk.elim) ?aF ?aO ?aB ?aS ?aL ?_; (case aP => exact rfl); (case aB => exact (by repeat (first | (with_reducible first | exact HB.out | apply below_alloc | apply pw_below_drewN | apply below_drew1 | refine below_set ?_ GE186.out) | exact HB.out))); (case aF => exact (fun _ _ => trivial)); (case aO => exact (qR HO_9.out)); (case aS => exact (below_size (by repeat (first | (with_reducible first | exact HB.out | apply below_alloc | apply pw_below_drewN | apply below_drew1 | refine below_set ?_ GE186.out) | exact HB.out)))); (case aL => have := LMc36.out; omega); intro v203 w38 ho hb hg hat; rw [← Ny202.out] at ho; have n0_ := qM (Kd.N_afterv (ok := (fun k_ => some k_ ≠ (u8 : Value).ownBlock ∧ some k_ ≠ (.slice Ao14 t178.length co14 : Value).ownBlock ∧ some k_ ≠ (.slice Ao15 t181.length co15 : Value).ownBlock ∧ k_ ≠ gb186)) (by (with_reducible repeat (first | apply Kd.N_alloc | apply Kd.N_drewN | apply Kd.N_drew)); exact Kd.N_mono HO_3.out (fun _ hk => ⟨⟨hk.1, ⟨hk.2.2.1, ⟨hk.2.2.2.1, hk.2.2.2.2⟩⟩⟩, hk.2.1⟩)) hg hat); have n1_ := qM (Kd.R_over' (qR HO_8.out) (Kd.R_typed (qR HO_9.out)) (by decide) hg); have n2_ := qM (Kd.R_over' (qR HO_187003.out) (Kd.R_typed (qR HO_9.out)) (by decide) hg); have n3_ := qM (Kd.N_afterv (ok := (fun k_ => some k_ ≠ (.slice (some ad200) t170.length co10 : Value).ownBlock ∧ some k_ ≠ (u8 : Value).ownBlock ∧ some k_ ≠ (.slice Ao14 t178.length co14 : Value).ownBlock ∧ k_ ≠ gb186)) (by (with_reducible repeat (first | apply Kd.N_alloc | apply Kd.N_drewN | apply Kd.N_drew)); exact Kd.N_mono HO_187004.out (fun _ hk => ⟨⟨hk.1, ⟨hk.2.1, ⟨hk.2.2.2.1, hk.2.2.2.2⟩⟩⟩, hk.2.2.1⟩)) hg hat); have n4_ := qM (blk_grown (g := gb186) (o := .cells #[.int .i64 t175, .string t176, .int .i64 t177, .slice Ao14 t178.length co14, .slice Ao15 t181.length co15] 28 (0, 0)) (qK BK186.out) hg (Kd.R_ne HO_9.out BK186.out (by decide))); have n5_ := qM (Kd.V_afterv (ok := (fun k_ => some k_ ≠ (.slice (some ad200) t170.length co10 : Value).ownBlock ∧ some k_ ≠ (u8 : Value).ownBlock ∧ some k_ ≠ (.slice Ao14 t178.length co14 : Value).ownBlock ∧ some k_ ≠ (.slice Ao15 t181.length co15 : Value).ownBlock ∧ k_ ≠ gb186)) (by (with_reducible repeat (first | apply Kd.V_alloc | apply Kd.V_drewN | apply Kd.V_drew)); exact Kd.V_mono HL200_3.out (fun _ hk => ⟨⟨hk.2, ⟨hk.1.1, ⟨hk.1.2.2.1, ⟨hk.1.2.2.2.1, hk.1.2.2.2.2⟩⟩⟩⟩, hk.1.2.1⟩)) hg hat); have n6_ := qM (Kd.V_afterv (ok := (fun k_ => some k_ ≠ (.slice (some ad200) t170.length co10 : Value).ownBlock ∧ some k_ ≠ (u8 : Value).ownBlock ∧ some k_ ≠ (.slice Ao14 t178.length co14 : Value).ownBlock ∧ some k_ ≠ (.slice Ao15 t181.length co15 : Value).ownBlock ∧ k_ ≠ gb186)) (by (with_reducible repeat (first | apply Kd.V_alloc | apply Kd.V_drewN | apply Kd.V_drew)); exact Kd.V_mono HL201_3.out (fun _ hk => ⟨⟨hk.2, ⟨hk.1.1, ⟨hk.1.2.2.1, ⟨hk.1.2.2.2.1, hk.1.2.2.2.2⟩⟩⟩⟩, hk.1.2.1⟩)) hg hat); have n7_ := qM (hb); have n8_ := qM (ho); clear HO_3; clear HO_8; clear HO_187003; clear HO_187004; clear BK186; clear HL200_3; clear HL201_3; clear HB; clear HO_9; have HO_3 := n0_; have HO_8 := n1_; have HO_187003 := n2_; have HO_187004 := n3_; have BK186 := n4_; have HL200_3 := n5_; have HL201_3 := n6_; have HB := n7_; have HO204 := n8_; clear n0_ n1_ n2_ n3_ n4_ n5_ n6_ n7_ n8_; clear ho hb hg hat; have p205 : 0 ≤ (x11_1 : Int) := qD; have q205 : x11_1 < (t170.length : Int) := qD; obtain ⟨ad205, A205_3, c205_3, e205, hx205_0, hx205_1, hx205_2, hx205_3, hx205_4, hl205_3, hi205_3⟩ := at_T44 (Kd.N_reads' HO_3.out).2.2 x11_1 p205 q205; obtain rfl : ad200 = ad205 := (by injection e205); obtain ⟨ce205, hce205, hMe205, hcc205⟩ := Kd.N_get HO_3.out z44 x11_1 p205 (by first | exact q205 | exact qD | (have e_ := (Kd.N_reads' HO_3.out).1; omega)); obtain ⟨ua205_3, uc205_3, rfl, ul205_3, ge205_3⟩ := k44_openF hMe205; have hv205_3 := hcc205 3 _ rfl; rw [add_field _ _ 3 (by omega)] at hv205_3; replace hv205_3 := qI (hv205_3.symm.trans hx205_3); injection hv205_3 with hva_ hvn_ hvc_; rw [hva_] at ge205_3; rw [hvc_] at ul205_3; have HL205_3 := qM (show Kd.V (Kd.int .u8) 5 _ w.heap.size _ _ ((rd_T44 t170 x11_1).f3) from Kd.V_mk ul205_3 ge205_3); clear hva_ hvn_ hvc_ ge205_3 ul205_3; clear hcc205 hce205; have HR205_3 := qM hi205_3; have HC205_3 := qM hl205_3; clear hi205_3 hl205_3; replace p205 := eq_true p205; replace q205 := eq_true q205; have hcv39 := Kd.C_string (P := Tryd.prog) (A := A205_3) (c := c205_3) Tryd.underlying25 Tryd.underlying5 Tryd.underlying9 (by repeat (first | (with_reducible exact HR205_3.out) | (with_reducible refine Kd.C_alloc ?_ _) | (with_reducible refine Kd.C_drewN ?_ _) | (with_reducible refine Kd.C_drew ?_) | exact HR205_3.out)))); try go_wp2_with (first | ((with_reducible refine gate_builtin (b := .append) (xs := #[.tmp 79, .tmp 85]) rfl ?_); (try (refine gate_guard (by rfl) ?_; dsimp only)); at_builtin; refine Kd.R_append (Kd.int .i64) (w0 := w) w.heap.size rfl (.tmp 79) (.tmp 85) 42 2 (.int .i64 0) 8 rfl Tryd.underlying42 info2 rfl (by decide) (by omega) u9 x9_1 ((rd_T44 t170 x11_1).f2) [.int .i64 ((rd_T44 t170 x11_1).f2)] (fun _ => True) (fun _ => False) rfl rfl ?aP (fun _ hk => hk.elim) ?aF ?aO ?aB ?aS ?aL ?_; (case aP => exact rfl); (case aB => exact (by repeat (first | (with_reducible first | exact HB.out | apply below_alloc | apply pw_below_drewN | apply below_drew1 | refine below_set ?_ GE186.out) | exact HB.out))); (case aF => exact (fun _ _ => trivial)); (case aO => exact (qR HO_9.out)); (case aS => exact (below_size (by repeat (first | (with_reducible first | exact HB.out | apply below_alloc | apply pw_below_drewN | apply below_drew1 | refine below_set ?_ GE186.out) | exact HB.out)))); (case aL => have := LMc36.out; omega); intro v203 w38 ho hb hg hat; rw [← Ny202.out] at ho; have n0_ := qM (Kd.N_afterv (ok := (fun k_ => some k_ ≠ (u8 : Value).ownBlock ∧ some k_ ≠ (.slice Ao14 t178.length co14 : Value).ownBlock ∧ some k_ ≠ (.slice Ao15 t181.length co15 : Value).ownBlock ∧ k_ ≠ gb186)) (by (with_reducible repeat (first | apply Kd.N_alloc | apply Kd.N_drewN | apply Kd.N_drew)); exact Kd.N_mono HO_3.out (fun _ hk => ⟨⟨hk.1, ⟨hk.2.2.1, ⟨hk.2.2.2.1, hk.2.2.2.2⟩⟩⟩, hk.2.1⟩)) hg hat); have n1_ := qM (Kd.R_over' (qR HO_8.out) (Kd.R_typed (qR HO_9.out)) (by decide) hg); have n2_ := qM (Kd.R_over' (qR HO_187003.out) (Kd.R_typed (qR HO_9.out)) (by decide) hg); have n3_ := qM (Kd.N_afterv (ok := (fun k_ => some k_ ≠ (.slice (some ad200) t170.length co10 : Value).ownBlock ∧ some k_ ≠ (u8 : Value).ownBlock ∧ some k_ ≠ (.slice Ao14 t178.length co14 : Value).ownBlock ∧ k_ ≠ gb186)) (by (with_reducible repeat (first | apply Kd.N_alloc | apply Kd.N_drewN | apply Kd.N_drew)); exact Kd.N_mono HO_187004.out (fun _ hk => ⟨⟨hk.1, ⟨hk.2.1, ⟨hk.2.2.2.1, hk.2.2.2.2⟩⟩⟩, hk.2.2.1⟩)) hg hat); have n4_ := qM (blk_grown (g := gb186) (o := .cells #[.int .i64 t175, .string t176, .int .i64 t177, .slice Ao14 t178.length co14, .slice Ao15 t181.length co15] 28 (0, 0)) (qK BK186.out) hg (Kd.R_ne HO_9.out BK186.out (by decide))); have n5_ := qM (Kd.V_afterv (ok := (fun k_ => some k_ ≠ (.slice (some ad200) t170.length co10 : Value).ownBlock ∧ some k_ ≠ (u8 : Value).ownBlock ∧ some k_ ≠ (.slice Ao14 t178.length co14 : Value).ownBlock ∧ some k_ ≠ (.slice Ao15 t181.length co15 : Value).ownBlock ∧ k_ ≠ gb186)) (by (with_reducible repeat (first | apply Kd.V_alloc | apply Kd.V_drewN | apply Kd.V_drew)); exact Kd.V_mono HL200_3.out (fun _ hk => ⟨⟨hk.2, ⟨hk.1.1, ⟨hk.1.2.2.1, ⟨hk.1.2.2.2.1, hk.1.2.2.2.2⟩⟩⟩⟩, hk.1.2.1⟩)) hg hat); have n6_ := qM (Kd.V_afterv (ok := (fun k_ => some k_ ≠ (.slice (some ad200) t170.length co10 : Value).ownBlock ∧ some k_ ≠ (u8 : Value).ownBlock ∧ some k_ ≠ (.slice Ao14 t178.length co14 : Value).ownBlock ∧ some k_ ≠ (.slice Ao15 t181.length co15 : Value).ownBlock ∧ k_ ≠ gb186)) (by (with_reducible repeat (first | apply Kd.V_alloc | apply Kd.V_drewN | apply Kd.V_drew)); exact Kd.V_mono HL201_3.out (fun _ hk => ⟨⟨hk.2, ⟨hk.1.1, ⟨hk.1.2.2.1, ⟨hk.1.2.2.2.1, hk.1.2.2.2.2⟩⟩⟩⟩, hk.1.2.1⟩)) hg hat); have n7_ := qM (hb); have n8_ := qM (ho); clear HO_3; clear HO_8; clear HO_187003; clear HO_187004; clear BK186; clear HL200_3; clear HL201_3; clear HB; clear HO_9; have HO_3 := n0_; have HO_8 := n1_; have HO_187003 := n2_; have HO_187004 := n3_; have BK186 := n4_; have HL200_3 := n5_; have HL201_3 := n6_; have HB := n7_; have HO204 := n8_; clear n0_ n1_ n2_ n3_ n4_ n5_ n6_ n7_ n8_; clear ho hb hg hat; have p205 : 0 ≤ (x11_1 : Int) := qD; have q205 : x11_1 < (t170.length : Int) := qD; obtain ⟨ad205, A205_3, c205_3, e205, hx205_0, hx205_1, hx205_2, hx205_3, hx205_4, hl205_3, hi205_3⟩ := at_T44 (Kd.N_reads' HO_3.out).2.2 x11_1 p205 q205; obtain rfl : ad200 = ad205 := (by injection e205); obtain ⟨ce205, hce205, hMe205, hcc205⟩ := Kd.N_get HO_3.out z44 x11_1 p205 (by first | exact q205 | exact qD | (have e_ := (Kd.N_reads' HO_3.out).1; omega)); obtain ⟨ua205_3, uc205_3, rfl, ul205_3, ge205_3⟩ := k44_openF hMe205; have hv205_3 := hcc205 3 _ rfl; rw [add_field _ _ 3 (by omega)] at hv205_3; replace hv205_3 := qI (hv205_3.symm.trans hx205_3); injection hv205_3 with hva_ hvn_ hvc_; rw [hva_] at ge205_3; rw [hvc_] at ul205_3; have HL205_3 := qM (show Kd.V (Kd.int .u8) 5 _ w.heap.size _ _ ((rd_T44 t170 x11_1).f3) from Kd.V_mk ul205_3 ge205_3); clear hva_ hvn_ hvc_ ge205_3 ul205_3; clear hcc205 hce205; have HR205_3 := qM hi205_3; have HC205_3 := qM hl205_3; clear hi205_3 hl205_3; replace p205 := eq_true p205; replace q205 := eq_true q205; have hcv39 := Kd.C_string (P := Tryd.prog) (A := A205_3) (c := c205_3) Tryd.underlying25 Tryd.underlying5 Tryd.underlying9 (by repeat (first | (with_reducible exact HR205_3.out) | (with_reducible refine Kd.C_alloc ?_ _) | (with_reducible refine Kd.C_drewN ?_ _) | (with_reducible refine Kd.C_drew ?_) | exact HR205_3.out)))))
               go_roundg kj16
               case measure => have := HK1.out; have := HJ16.out; omega
               case rel => exact ⟨(x8_1), (y202), (x10_1 ++ (strOfNums ((rd_T44 t170 x11_1).f3))), (wrap64 (x11_1 + 1)), qS, qS, H', ⟨by have := HK1.out; have := HJ16.out; omega⟩, ⟨by (with_reducible repeat (first | apply Kd.N_alloc | apply Kd.N_drewN | apply Kd.N_drew)); exact Kd.N_mono HO_3.out (fun _ hk => ⟨hk.1.1, ⟨hk.2, ⟨hk.1.2.1, ⟨hk.1.2.2.1, hk.1.2.2.2⟩⟩⟩⟩)⟩, ⟨qR HO_8.out⟩, ⟨qR HO204.out⟩, ⟨qR HO_187003.out⟩, ⟨by (with_reducible repeat (first | apply Kd.N_alloc | apply Kd.N_drewN | apply Kd.N_drew)); exact Kd.N_mono HO_187004.out (fun _ hk => ⟨hk.1.1, ⟨hk.1.2.1, ⟨hk.2, ⟨hk.1.2.2.1, hk.1.2.2.2⟩⟩⟩⟩)⟩, ⟨qK BK186.out⟩, ⟨by repeat (first | (with_reducible first | exact HB.out | apply below_alloc | apply pw_below_drewN | apply below_drew1 | refine below_set ?_ GE186.out) | exact HB.out)⟩⟩
              ·
               rw [if_neg c37] at H
               exact absurd H (by simp)
             ·
              rw [if_neg c36] at H
              exact absurd H (by simp)
            ·
             rw [if_neg c35] at H
             have c35b0 : (((rd_T44 t170 x11_1).f0) == 1) = false := beq_eq_false_iff_ne.mpr c35
             have c35b1 : (((rd_T44 t170 x11_1).f0) != 1) = true := bne_iff_ne.mpr c35
             by_cases c40 : x10_1.size + (strOfNums ((rd_T44 t170 x11_1).f3)).size ≤ 9223372036854775807
             ·
              rw [if_pos c40] at H
              have c40b0 := eq_true c40
              have c40b1 : decide (x10_1.size + (strOfNums ((rd_T44 t170 x11_1).f3)).size ≤ 9223372036854775807) = true := decide_eq_true c40
              try have c40b2 : (9223372036854775807 < x10_1.size + (strOfNums ((rd_T44 t170 x11_1).f3)).size) = False := eq_false (Nat.not_lt.2 c40)
              have H' := qM H
              clear H
              have p200 : 0 ≤ (x11_1 : Int) := qD
              have q200 : x11_1 < (t170.length : Int) := qD
              obtain ⟨ad200, A200_3, c200_3, e200, hx200_0, hx200_1, hx200_2, hx200_3, hx200_4, hl200_3, hi200_3⟩ := at_T44 (Kd.N_reads' HO_3.out).2.2 x11_1 p200 q200
              cases e200
              obtain ⟨ce200, hce200, hMe200, hcc200⟩ := Kd.N_get HO_3.out z44 x11_1 p200 (by first | exact q200 | exact qD | (have e_ := (Kd.N_reads' HO_3.out).1; omega))
              obtain ⟨ua200_3, uc200_3, rfl, ul200_3, ge200_3⟩ := k44_openF hMe200
              have hv200_3 := hcc200 3 _ rfl
              rw [add_field _ _ 3 (by omega)] at hv200_3
              replace hv200_3 := qI (hv200_3.symm.trans hx200_3)
              injection hv200_3 with hva_ hvn_ hvc_
              rw [hva_] at ge200_3
              rw [hvc_] at ul200_3
              have HL200_3 := qM (show Kd.V (Kd.int .u8) 5 _ w.heap.size _ _ ((rd_T44 t170 x11_1).f3) from Kd.V_mk ul200_3 ge200_3)
              clear hva_ hvn_ hvc_ ge200_3 ul200_3; clear hcc200 hce200
              have HR200_3 := qM hi200_3
              have HC200_3 := qM hl200_3
              clear hi200_3 hl200_3
              replace p200 := eq_true p200
              replace q200 := eq_true q200
              have p206 : 0 ≤ (x11_1 : Int) := qD
              have q206 : x11_1 < (t170.length : Int) := qD
              obtain ⟨ad206, A206_3, c206_3, e206, hx206_0, hx206_1, hx206_2, hx206_3, hx206_4, hl206_3, hi206_3⟩ := at_T44 (Kd.N_reads' HO_3.out).2.2 x11_1 p206 q206
              obtain rfl : ad200 = ad206 := (by injection e206)
              obtain ⟨ce206, hce206, hMe206, hcc206⟩ := Kd.N_get HO_3.out z44 x11_1 p206 (by first | exact q206 | exact qD | (have e_ := (Kd.N_reads' HO_3.out).1; omega))
              obtain ⟨ua206_3, uc206_3, rfl, ul206_3, ge206_3⟩ := k44_openF hMe206
              have hv206_3 := hcc206 3 _ rfl
              rw [add_field _ _ 3 (by omega)] at hv206_3
              replace hv206_3 := qI (hv206_3.symm.trans hx206_3)
              injection hv206_3 with hva_ hvn_ hvc_
              rw [hva_] at ge206_3
              rw [hvc_] at ul206_3
              have HL206_3 := qM (show Kd.V (Kd.int .u8) 5 _ w.heap.size _ _ ((rd_T44 t170 x11_1).f3) from Kd.V_mk ul206_3 ge206_3)
              clear hva_ hvn_ hvc_ ge206_3 ul206_3; clear hcc206 hce206
              have HR206_3 := qM hi206_3
              have HC206_3 := qM hl206_3
              clear hi206_3 hl206_3
              replace p206 := eq_true p206
              replace q206 := eq_true q206
              have ea_ := qI (hx200_3.symm.trans hx206_3)
              injection ea_ with ea_ en_ ec_
              subst ea_
              subst ec_
              clear en_
              have hcv41 := Kd.C_string (P := Tryd.prog) (A := A200_3) (c := c200_3) Tryd.underlying25 Tryd.underlying5 Tryd.underlying9 (by repeat (first | (with_reducible exact HR206_3.out) | (with_reducible refine Kd.C_alloc ?_ _) | (with_reducible refine Kd.C_drewN ?_ _) | (with_reducible refine Kd.C_drew ?_) | exact HR206_3.out))
              have hcq41 := fun a_ => Kd.C_string (P := Tryd.prog) (A := A200_3) (c := c200_3) Tryd.underlying25 Tryd.underlying5 Tryd.underlying9 (Kd.C_drewN HR206_3.out a_)
              go_wp2
              repeat (go_quiet (fail); try go_wp2)
              go_roundg kj16
              case measure => have := HK1.out; have := HJ16.out; omega
              case rel => exact ⟨(x8_1), (x9_1), (x10_1 ++ (strOfNums ((rd_T44 t170 x11_1).f3))), (wrap64 (x11_1 + 1)), qS, qS, H', ⟨by have := HK1.out; have := HJ16.out; omega⟩, ⟨qN HO_3.out⟩, ⟨qR HO_8.out⟩, ⟨qR HO_9.out⟩, ⟨qR HO_187003.out⟩, ⟨qN HO_187004.out⟩, ⟨qK BK186.out⟩, ⟨by repeat (first | (with_reducible first | exact HB.out | apply below_alloc | apply pw_below_drewN | apply below_drew1 | refine below_set ?_ GE186.out) | exact HB.out)⟩⟩
             ·
              rw [if_neg c40] at H
              exact absurd H (by simp)
           ·
            rw [if_neg c34] at H
            exact absurd H (by simp)
          ·
           rw [if_neg c33] at H
           exact absurd H (by simp)
      ·
       rw [if_neg c16] at H
       have c16b0 : decide (x11_1 < (t170.length : Int)) = false := decide_eq_false c16
       clear c16
       replace H := Option.bind_eq_some_iff.mp H
       obtain ⟨t207, A420, H⟩ := H
       replace H : (rookerylaw16_GramYields.l1 k1 0 x8_1 x9_1 x10_1 t207 0 t175 t176 t177 t178 t181) = some r := H
       have A42 := qM A420
       clear A420
       have H' := qM H
       clear H
       have hcz43_0 : wr.cell? ⟨gb186, 0, none⟩ = some (.int .i64 t175) := (blk_cell BK186.out 0).trans rfl
       have hcz43_1 : wr.cell? ⟨gb186, 1, none⟩ = some (.string t176) := (blk_cell BK186.out 1).trans rfl
       have hcz43_2 : wr.cell? ⟨gb186, 2, none⟩ = some (.int .i64 t177) := (blk_cell BK186.out 2).trans rfl
       have hcz43_3 : wr.cell? ⟨gb186, 3, none⟩ = some (.slice Ao14 t178.length co14) := (blk_cell BK186.out 3).trans rfl
       have hcz43_4 : wr.cell? ⟨gb186, 4, none⟩ = some (.slice Ao15 t181.length co15) := (blk_cell BK186.out 4).trans rfl
       have hfz43_0 := blk_frozen BK186.out 0
       have hfz43_1 := blk_frozen BK186.out 1
       have hfz43_2 := blk_frozen BK186.out 2
       have hfz43_3 := blk_frozen BK186.out 3
       have hfz43_4 := blk_frozen BK186.out 4
       go_wp2_with (first | (go_at_call 16; (with_reducible refine (rookeryref16_All.calls k1 t175 t176 t177 (fun k_ => some k_ = (.slice Ao14 t178.length co14 : Value).ownBlock) _ _ t178 (fun k_ => (some k_ ≠ (.slice Ao10 t170.length co10 : Value).ownBlock ∧ (some k_ ≠ (u8 : Value).ownBlock ∧ (some k_ ≠ (u9 : Value).ownBlock ∧ (some k_ ≠ (.slice Ao14 t178.length co14 : Value).ownBlock ∧ k_ ≠ gb186))))) _ _ t181 30000 t207 _ ?side1 ?side2 A42.out).mono ?_); (case side1 => exact Kd.R_V (Kd.R_tight rfl (Kd.R_types (Kd.R_apart' (Kd.R_apart' (Kd.R_apart' (Kd.R_apart' (HO_187003.out) (Kd.N_typed HO_3.out) (by decide)) (Kd.R_typed HO_8.out) (by decide)) (Kd.R_typed HO_9.out) (by decide)) (Kd.N_typed HO_187004.out) (by decide)) BK186.out (by decide)))); (case side2 => exact Kd.N_V (HO_187004.out)); rintro e w44 ⟨v208, rfl, ho0, hb⟩; have n0_ := qM (Kd.N_elder' (qN HO_3.out) (Kd.N_base ho0) hb); have n1_ := qM (Kd.R_below (qR HO_8.out) hb); have n2_ := qM (Kd.R_below (qR HO_9.out) hb); have n3_ := qM (Kd.R_below (qR HO_187003.out) hb); have n4_ := qM (Kd.N_elder' (qN HO_187004.out) (Kd.N_base ho0) hb); have n5_ := qM (Kd.N_lower (Kd.N_mono (ok' := fun k_ => some k_ ≠ (.slice Ao10 t170.length co10 : Value).ownBlock ∧ some k_ ≠ (u8 : Value).ownBlock ∧ some k_ ≠ (u9 : Value).ownBlock ∧ k_ ≠ gb186) ho0 (fun k_ hk_ => ⟨Or.elim hk_ (fun hs_ => Or.elim hs_ (fun hs_ => ((Kd.R_types (Kd.R_apart' (Kd.R_apart' (Kd.R_apart' (Kd.R_apart' (HO_187003.out) (Kd.N_typed HO_3.out) (by decide)) (Kd.R_typed HO_8.out) (by decide)) (Kd.R_typed HO_9.out) (by decide)) (Kd.N_typed HO_187004.out) (by decide)) BK186.out (by decide)).1 k_ hs_.symm).1.1.1.1.2) (fun hs_ => hs_.1)) (fun hn_ => (Kd.fresh' (Kd.N_lt (qN HO_3.out)) k_ hn_)), Or.elim hk_ (fun hs_ => Or.elim hs_ (fun hs_ => ((Kd.R_types (Kd.R_apart' (Kd.R_apart' (Kd.R_apart' (Kd.R_apart' (HO_187003.out) (Kd.N_typed HO_3.out) (by decide)) (Kd.R_typed HO_8.out) (by decide)) (Kd.R_typed HO_9.out) (by decide)) (Kd.N_typed HO_187004.out) (by decide)) BK186.out (by decide)).1 k_ hs_.symm).1.1.1.2) (fun hs_ => hs_.2.1)) (fun hn_ => (Kd.fresh' (Kd.R_lt (qR HO_8.out)) k_ hn_)), Or.elim hk_ (fun hs_ => Or.elim hs_ (fun hs_ => ((Kd.R_types (Kd.R_apart' (Kd.R_apart' (Kd.R_apart' (Kd.R_apart' (HO_187003.out) (Kd.N_typed HO_3.out) (by decide)) (Kd.R_typed HO_8.out) (by decide)) (Kd.R_typed HO_9.out) (by decide)) (Kd.N_typed HO_187004.out) (by decide)) BK186.out (by decide)).1 k_ hs_.symm).1.1.2) (fun hs_ => hs_.2.2.1)) (fun hn_ => (Kd.fresh' (Kd.R_lt (qR HO_9.out)) k_ hn_)), Or.elim hk_ (fun hs_ => Or.elim hs_ (fun hs_ => ((Kd.R_types (Kd.R_apart' (Kd.R_apart' (Kd.R_apart' (Kd.R_apart' (HO_187003.out) (Kd.N_typed HO_3.out) (by decide)) (Kd.R_typed HO_8.out) (by decide)) (Kd.R_typed HO_9.out) (by decide)) (Kd.N_typed HO_187004.out) (by decide)) BK186.out (by decide)).1 k_ hs_.symm).2) (fun hs_ => hs_.2.2.2.2)) (fun hn_ => (Kd.freshB (g := gb186) (o := .cells #[.int .i64 t175, .string t176, .int .i64 t177, .slice Ao14 t178.length co14, .slice Ao15 t181.length co15] 28 (0, 0)) (qK BK186.out) k_ hn_))⟩)) (below_size (by repeat (first | (with_reducible first | exact HB.out | apply below_alloc | apply pw_below_drewN | apply below_drew1 | refine below_set ?_ GE186.out) | exact HB.out)))); have n6_ := qM (blk_below (g := gb186) (o := .cells #[.int .i64 t175, .string t176, .int .i64 t177, .slice Ao14 t178.length co14, .slice Ao15 t181.length co15] 28 (0, 0)) (qK BK186.out) hb); have n7_ := qM (below_step (by repeat (first | (with_reducible first | exact HB.out | apply below_alloc | apply pw_below_drewN | apply below_drew1 | refine below_set ?_ GE186.out) | exact HB.out)) hb); clear HO_3; clear HO_8; clear HO_9; clear HO_187003; clear HO_187004; clear BK186; clear HB; have HO_3 := n0_; have HO_8 := n1_; have HO_9 := n2_; have HO_187003 := n3_; have HO_187004 := n4_; have HO209 := n5_; have BK186 := n6_; have HB := n7_; clear n0_ n1_ n2_ n3_ n4_ n5_ n6_ n7_; (try clear hb); (try clear hb2); (try clear hk); (try clear hi); (try clear ho0)))
       repeat (go_quiet (first | (go_at_call 16; (with_reducible refine (rookeryref16_All.calls k1 t175 t176 t177 (fun k_ => some k_ = (.slice Ao14 t178.length co14 : Value).ownBlock) _ _ t178 (fun k_ => (some k_ ≠ (.slice Ao10 t170.length co10 : Value).ownBlock ∧ (some k_ ≠ (u8 : Value).ownBlock ∧ (some k_ ≠ (u9 : Value).ownBlock ∧ (some k_ ≠ (.slice Ao14 t178.length co14 : Value).ownBlock ∧ k_ ≠ gb186))))) _ _ t181 30000 t207 _ ?side1 ?side2 A42.out).mono ?_); (case side1 => exact Kd.R_V (Kd.R_tight rfl (Kd.R_types (Kd.R_apart' (Kd.R_apart' (Kd.R_apart' (Kd.R_apart' (HO_187003.out) (Kd.N_typed HO_3.out) (by decide)) (Kd.R_typed HO_8.out) (by decide)) (Kd.R_typed HO_9.out) (by decide)) (Kd.N_typed HO_187004.out) (by decide)) BK186.out (by decide)))); (case side2 => exact Kd.N_V (HO_187004.out)); rintro e w44 ⟨v208, rfl, ho0, hb⟩; have n0_ := qM (Kd.N_elder' (qN HO_3.out) (Kd.N_base ho0) hb); have n1_ := qM (Kd.R_below (qR HO_8.out) hb); have n2_ := qM (Kd.R_below (qR HO_9.out) hb); have n3_ := qM (Kd.R_below (qR HO_187003.out) hb); have n4_ := qM (Kd.N_elder' (qN HO_187004.out) (Kd.N_base ho0) hb); have n5_ := qM (Kd.N_lower (Kd.N_mono (ok' := fun k_ => some k_ ≠ (.slice Ao10 t170.length co10 : Value).ownBlock ∧ some k_ ≠ (u8 : Value).ownBlock ∧ some k_ ≠ (u9 : Value).ownBlock ∧ k_ ≠ gb186) ho0 (fun k_ hk_ => ⟨Or.elim hk_ (fun hs_ => Or.elim hs_ (fun hs_ => ((Kd.R_types (Kd.R_apart' (Kd.R_apart' (Kd.R_apart' (Kd.R_apart' (HO_187003.out) (Kd.N_typed HO_3.out) (by decide)) (Kd.R_typed HO_8.out) (by decide)) (Kd.R_typed HO_9.out) (by decide)) (Kd.N_typed HO_187004.out) (by decide)) BK186.out (by decide)).1 k_ hs_.symm).1.1.1.1.2) (fun hs_ => hs_.1)) (fun hn_ => (Kd.fresh' (Kd.N_lt (qN HO_3.out)) k_ hn_)), Or.elim hk_ (fun hs_ => Or.elim hs_ (fun hs_ => ((Kd.R_types (Kd.R_apart' (Kd.R_apart' (Kd.R_apart' (Kd.R_apart' (HO_187003.out) (Kd.N_typed HO_3.out) (by decide)) (Kd.R_typed HO_8.out) (by decide)) (Kd.R_typed HO_9.out) (by decide)) (Kd.N_typed HO_187004.out) (by decide)) BK186.out (by decide)).1 k_ hs_.symm).1.1.1.2) (fun hs_ => hs_.2.1)) (fun hn_ => (Kd.fresh' (Kd.R_lt (qR HO_8.out)) k_ hn_)), Or.elim hk_ (fun hs_ => Or.elim hs_ (fun hs_ => ((Kd.R_types (Kd.R_apart' (Kd.R_apart' (Kd.R_apart' (Kd.R_apart' (HO_187003.out) (Kd.N_typed HO_3.out) (by decide)) (Kd.R_typed HO_8.out) (by decide)) (Kd.R_typed HO_9.out) (by decide)) (Kd.N_typed HO_187004.out) (by decide)) BK186.out (by decide)).1 k_ hs_.symm).1.1.2) (fun hs_ => hs_.2.2.1)) (fun hn_ => (Kd.fresh' (Kd.R_lt (qR HO_9.out)) k_ hn_)), Or.elim hk_ (fun hs_ => Or.elim hs_ (fun hs_ => ((Kd.R_types (Kd.R_apart' (Kd.R_apart' (Kd.R_apart' (Kd.R_apart' (HO_187003.out) (Kd.N_typed HO_3.out) (by decide)) (Kd.R_typed HO_8.out) (by decide)) (Kd.R_typed HO_9.out) (by decide)) (Kd.N_typed HO_187004.out) (by decide)) BK186.out (by decide)).1 k_ hs_.symm).2) (fun hs_ => hs_.2.2.2.2)) (fun hn_ => (Kd.freshB (g := gb186) (o := .cells #[.int .i64 t175, .string t176, .int .i64 t177, .slice Ao14 t178.length co14, .slice Ao15 t181.length co15] 28 (0, 0)) (qK BK186.out) k_ hn_))⟩)) (below_size (by repeat (first | (with_reducible first | exact HB.out | apply below_alloc | apply pw_below_drewN | apply below_drew1 | refine below_set ?_ GE186.out) | exact HB.out)))); have n6_ := qM (blk_below (g := gb186) (o := .cells #[.int .i64 t175, .string t176, .int .i64 t177, .slice Ao14 t178.length co14, .slice Ao15 t181.length co15] 28 (0, 0)) (qK BK186.out) hb); have n7_ := qM (below_step (by repeat (first | (with_reducible first | exact HB.out | apply below_alloc | apply pw_below_drewN | apply below_drew1 | refine below_set ?_ GE186.out) | exact HB.out)) hb); clear HO_3; clear HO_8; clear HO_9; clear HO_187003; clear HO_187004; clear BK186; clear HB; have HO_3 := n0_; have HO_8 := n1_; have HO_9 := n2_; have HO_187003 := n3_; have HO_187004 := n4_; have HO209 := n5_; have BK186 := n6_; have HB := n7_; clear n0_ n1_ n2_ n3_ n4_ n5_ n6_ n7_; (try clear hb); (try clear hb2); (try clear hk); (try clear hi); (try clear ho0))); try go_wp2_with (first | (go_at_call 16; (with_reducible refine (rookeryref16_All.calls k1 t175 t176 t177 (fun k_ => some k_ = (.slice Ao14 t178.length co14 : Value).ownBlock) _ _ t178 (fun k_ => (some k_ ≠ (.slice Ao10 t170.length co10 : Value).ownBlock ∧ (some k_ ≠ (u8 : Value).ownBlock ∧ (some k_ ≠ (u9 : Value).ownBlock ∧ (some k_ ≠ (.slice Ao14 t178.length co14 : Value).ownBlock ∧ k_ ≠ gb186))))) _ _ t181 30000 t207 _ ?side1 ?side2 A42.out).mono ?_); (case side1 => exact Kd.R_V (Kd.R_tight rfl (Kd.R_types (Kd.R_apart' (Kd.R_apart' (Kd.R_apart' (Kd.R_apart' (HO_187003.out) (Kd.N_typed HO_3.out) (by decide)) (Kd.R_typed HO_8.out) (by decide)) (Kd.R_typed HO_9.out) (by decide)) (Kd.N_typed HO_187004.out) (by decide)) BK186.out (by decide)))); (case side2 => exact Kd.N_V (HO_187004.out)); rintro e w44 ⟨v208, rfl, ho0, hb⟩; have n0_ := qM (Kd.N_elder' (qN HO_3.out) (Kd.N_base ho0) hb); have n1_ := qM (Kd.R_below (qR HO_8.out) hb); have n2_ := qM (Kd.R_below (qR HO_9.out) hb); have n3_ := qM (Kd.R_below (qR HO_187003.out) hb); have n4_ := qM (Kd.N_elder' (qN HO_187004.out) (Kd.N_base ho0) hb); have n5_ := qM (Kd.N_lower (Kd.N_mono (ok' := fun k_ => some k_ ≠ (.slice Ao10 t170.length co10 : Value).ownBlock ∧ some k_ ≠ (u8 : Value).ownBlock ∧ some k_ ≠ (u9 : Value).ownBlock ∧ k_ ≠ gb186) ho0 (fun k_ hk_ => ⟨Or.elim hk_ (fun hs_ => Or.elim hs_ (fun hs_ => ((Kd.R_types (Kd.R_apart' (Kd.R_apart' (Kd.R_apart' (Kd.R_apart' (HO_187003.out) (Kd.N_typed HO_3.out) (by decide)) (Kd.R_typed HO_8.out) (by decide)) (Kd.R_typed HO_9.out) (by decide)) (Kd.N_typed HO_187004.out) (by decide)) BK186.out (by decide)).1 k_ hs_.symm).1.1.1.1.2) (fun hs_ => hs_.1)) (fun hn_ => (Kd.fresh' (Kd.N_lt (qN HO_3.out)) k_ hn_)), Or.elim hk_ (fun hs_ => Or.elim hs_ (fun hs_ => ((Kd.R_types (Kd.R_apart' (Kd.R_apart' (Kd.R_apart' (Kd.R_apart' (HO_187003.out) (Kd.N_typed HO_3.out) (by decide)) (Kd.R_typed HO_8.out) (by decide)) (Kd.R_typed HO_9.out) (by decide)) (Kd.N_typed HO_187004.out) (by decide)) BK186.out (by decide)).1 k_ hs_.symm).1.1.1.2) (fun hs_ => hs_.2.1)) (fun hn_ => (Kd.fresh' (Kd.R_lt (qR HO_8.out)) k_ hn_)), Or.elim hk_ (fun hs_ => Or.elim hs_ (fun hs_ => ((Kd.R_types (Kd.R_apart' (Kd.R_apart' (Kd.R_apart' (Kd.R_apart' (HO_187003.out) (Kd.N_typed HO_3.out) (by decide)) (Kd.R_typed HO_8.out) (by decide)) (Kd.R_typed HO_9.out) (by decide)) (Kd.N_typed HO_187004.out) (by decide)) BK186.out (by decide)).1 k_ hs_.symm).1.1.2) (fun hs_ => hs_.2.2.1)) (fun hn_ => (Kd.fresh' (Kd.R_lt (qR HO_9.out)) k_ hn_)), Or.elim hk_ (fun hs_ => Or.elim hs_ (fun hs_ => ((Kd.R_types (Kd.R_apart' (Kd.R_apart' (Kd.R_apart' (Kd.R_apart' (HO_187003.out) (Kd.N_typed HO_3.out) (by decide)) (Kd.R_typed HO_8.out) (by decide)) (Kd.R_typed HO_9.out) (by decide)) (Kd.N_typed HO_187004.out) (by decide)) BK186.out (by decide)).1 k_ hs_.symm).2) (fun hs_ => hs_.2.2.2.2)) (fun hn_ => (Kd.freshB (g := gb186) (o := .cells #[.int .i64 t175, .string t176, .int .i64 t177, .slice Ao14 t178.length co14, .slice Ao15 t181.length co15] 28 (0, 0)) (qK BK186.out) k_ hn_))⟩)) (below_size (by repeat (first | (with_reducible first | exact HB.out | apply below_alloc | apply pw_below_drewN | apply below_drew1 | refine below_set ?_ GE186.out) | exact HB.out)))); have n6_ := qM (blk_below (g := gb186) (o := .cells #[.int .i64 t175, .string t176, .int .i64 t177, .slice Ao14 t178.length co14, .slice Ao15 t181.length co15] 28 (0, 0)) (qK BK186.out) hb); have n7_ := qM (below_step (by repeat (first | (with_reducible first | exact HB.out | apply below_alloc | apply pw_below_drewN | apply below_drew1 | refine below_set ?_ GE186.out) | exact HB.out)) hb); clear HO_3; clear HO_8; clear HO_9; clear HO_187003; clear HO_187004; clear BK186; clear HB; have HO_3 := n0_; have HO_8 := n1_; have HO_9 := n2_; have HO_187003 := n3_; have HO_187004 := n4_; have HO209 := n5_; have BK186 := n6_; have HB := n7_; clear n0_ n1_ n2_ n3_ n4_ n5_ n6_ n7_; (try clear hb); (try clear hb2); (try clear hk); (try clear hi); (try clear ho0))))
       go_loopg [7, 10, 13] k1 (fun kq v7 v10 v13 w' => ∃ (x7_2 : Int) (x10_2 : ByteArray) (x13_2 : Int), v7 = .int .i64 x7_2 ∧ v10 = .string x10_2 ∧ v13 = .int .i64 x13_2 ∧ Aside0 (rookerylaw16_GramYields.l1 kq x7_2 x8_1 x9_1 x10_2 t207 x13_2 t175 t176 t177 t178 t181 = some r) ∧ Aside0 (kq ≤ k1) ∧ Aside0 (Kd.R Kd.string 9 w' w.heap.size (fun _ => True) u8 x8_1) ∧ Aside0 (Kd.R (Kd.int .i64) 2 w' w.heap.size (fun _ => True) u9 x9_1) ∧ Aside0 (Kd.N k28 28 w' w.heap.size (fun k_ => some k_ ≠ (u8 : Value).ownBlock ∧ some k_ ≠ (u9 : Value).ownBlock ∧ k_ ≠ gb186) v208 t207) ∧ Aside0 (Kd.R (Kd.int .u8) 5 w' w.heap.size (fun _ => True) (.slice Ao14 t178.length co14) t178) ∧ Aside0 (Kd.N k28 28 w' w.heap.size (fun k_ => some k_ ≠ (u8 : Value).ownBlock ∧ some k_ ≠ (u9 : Value).ownBlock ∧ some k_ ≠ (v208 : Value).ownBlock ∧ some k_ ≠ ((.slice Ao14 t178.length co14) : Value).ownBlock ∧ k_ ≠ gb186) (.slice Ao15 t181.length co15) t181) ∧ Aside0 (w'.heap[gb186]? = some (.cells #[.int .i64 t175, .string t176, .int .i64 t177, (.slice Ao14 t178.length co14), (.slice Ao15 t181.length co15)] 28 (0, 0))) ∧ Aside0 (Below w.heap.size w w'))
       case atStart => exact ⟨(0), (x10_1), (0), qS, qS, qS, H', ⟨Nat.le_refl _⟩, ⟨qR HO_8.out⟩, ⟨qR HO_9.out⟩, ⟨by (with_reducible repeat (first | apply Kd.N_alloc | apply Kd.N_drewN | apply Kd.N_drew)); exact Kd.N_mono HO209.out (fun _ hk => ⟨hk.2.1, ⟨hk.2.2.1, hk.2.2.2⟩⟩)⟩, ⟨qR HO_187003.out⟩, ⟨by (with_reducible repeat (first | apply Kd.N_alloc | apply Kd.N_drewN | apply Kd.N_drew)); exact Kd.N_mono HO_187004.out (fun _ hk => ⟨hk.1.2.1, ⟨hk.1.2.2.1, ⟨hk.2, ⟨hk.1.2.2.2.1, hk.1.2.2.2.2⟩⟩⟩⟩)⟩, ⟨qK BK186.out⟩, ⟨by repeat (first | (with_reducible first | exact HB.out | apply below_alloc | apply pw_below_drewN | apply below_drew1 | refine below_set ?_ GE186.out) | exact HB.out)⟩⟩
       case round =>
        clear H'; try clear c1; try clear p1; try clear q1; try clear hx1; try clear c2; try clear p2; try clear q2; try clear hx2; try clear hcv2; try clear c3; try clear hcv3; try clear c4; try clear hcv4; try clear c5; try clear c5b0; try clear c5b1; try clear c6; try clear p6; try clear c7; try clear c7b0; try clear c7b1; try clear c16; try clear c16b0; try clear c18; try clear c18b0; try clear p18; try clear q18; try clear hx18; try clear c19; try clear c19b0; try clear c19b1; try clear p19; try clear q19; try clear hx19; try clear c20; try clear p20; try clear q20; try clear hx20; try clear c21; try clear c21b0; try clear c22; try clear c22b0; try clear c23; try clear c24; try clear c24b0; try clear c24b1; try clear c25; try clear c26; try clear c26b0; try clear c26b1; try clear c26b2; try clear hcv29; try clear c30; try clear c30b0; try clear c30b1; try clear c30b2; try clear hcv32; try clear c33; try clear c33b0; try clear c34; try clear c34b0; try clear c35; try clear c35b0; try clear c35b1; try clear c36; try clear c37; try clear c37b0; try clear c37b1; try clear c37b2; try clear hcv39; try clear c40; try clear c40b0; try clear c40b1; try clear c40b2; try clear hcv41; try clear hcz13_0; try clear hcz13_1; try clear hcz13_2; try clear hcz13_3; try clear hcz13_4; try clear hcz43_0; try clear hcz43_1; try clear hcz43_2; try clear hcz43_3; try clear hcz43_4; try clear hfz13_0; try clear hfz13_1; try clear hfz13_2; try clear hfz13_3; try clear hfz13_4; try clear hfz43_0; try clear hfz43_1; try clear hfz43_2; try clear hfz43_3; try clear hfz43_4; try clear hx187_0; try clear hx187_1; try clear hx187_2; try clear hx187_3; try clear hx187_4; try clear hx188_0; try clear hx188_1; try clear hx188_2; try clear hx188_3; try clear hx188_4; try clear hx189_0; try clear hx189_1; try clear hx189_2; try clear hx189_3; try clear hx189_4; try clear hx193_0; try clear hx193_1; try clear hx193_2; try clear hx193_3; try clear hx193_4; try clear hx194_0; try clear hx194_1; try clear hx194_2; try clear hx194_3; try clear hx194_4; try clear hx198_0; try clear hx198_1; try clear hx198_2; try clear hx198_3; try clear hx198_4; try clear hx199_0; try clear hx199_1; try clear hx199_2; try clear hx199_3; try clear hx199_4; try clear hx200_0; try clear hx200_1; try clear hx200_2; try clear hx200_3; try clear hx200_4; try clear hx201_0; try clear hx201_1; try clear hx201_2; try clear hx201_3; try clear hx201_4; try clear hx205_0; try clear hx205_1; try clear hx205_2; try clear hx205_3; try clear hx205_4; try clear hx206_0; try clear hx206_1; try clear hx206_2; try clear hx206_3; try clear hx206_4; try clear p1; try clear p18; try clear p187; try clear p188; try clear p189; try clear p193; try clear p194; try clear p198; try clear p199; try clear p2; try clear p200; try clear p201; try clear p205; try clear p206; try clear q1; try clear q18; try clear q187; try clear q188; try clear q189; try clear q193; try clear q194; try clear q198; try clear q199; try clear q200; try clear q201; try clear q205; try clear q206
        obtain ⟨x7_2, x10_2, x13_2, rfl, rfl, rfl, HA, HK2, HO_8, HO_9, HO_12, HO_187003, HO_187004, BK186, HB⟩ := hrel
        cases gk with
        | zero => exact absurd HA.out (by simp [rookerylaw16_GramYields.l1])
        | succ k2 =>
         have H := HA.out
         clear HA
         simp only [rookerylaw16_GramYields.l1] at H
         by_cases c45 : x13_2 < (t207.length : Int)
         ·
          rw [if_pos c45] at H
          have c45b0 : decide (x13_2 < (t207.length : Int)) = true := decide_eq_true c45
          clear c45
          by_cases c46 : 0 ≤ x13_2
          ·
           rw [if_pos c46] at H
           have c46b0 : decide (0 ≤ x13_2) = true := decide_eq_true c46
           clear c46
           by_cases c47 : ((rd_T28 t207 x13_2).f0) = 1
           ·
            rw [if_pos c47] at H
            have c47b0 : (((rd_T28 t207 x13_2).f0) == 1) = true := beq_iff_eq.mpr c47
            have c47b1 : (((rd_T28 t207 x13_2).f0) != 1) = false := bne_eq_false_iff_eq.mpr c47
            clear c47
            have HC48 := qM H
            clear H
            obtain ⟨Ao49, co49, eo49⟩ := Kd.N_slice HO_12.out
            subst eo49
            have p214 : 0 ≤ (x13_2 : Int) := qD
            have q214 : x13_2 < (t207.length : Int) := qD
            obtain ⟨ad214, A214_3, c214_3, A214_4, c214_4, e214, hx214_0, hx214_1, hx214_2, hx214_3, hx214_4, hl214_3, hi214_3, hl214_4, hi214_4⟩ := at_T28 (Kd.N_reads' HO_12.out).2.2 x13_2 p214 q214
            cases e214
            obtain ⟨ce214, hce214, hMe214, hcc214⟩ := Kd.N_get HO_12.out z28 x13_2 p214 (by first | exact q214 | exact qD | (have e_ := (Kd.N_reads' HO_12.out).1; omega))
            obtain ⟨ua214_3, uc214_3, ua214_4, uc214_4, rfl, ul214_3, ge214_3, ul214_4, ge214_4⟩ := k28_openF hMe214
            have hv214_3 := hcc214 3 _ rfl
            rw [add_field _ _ 3 (by omega)] at hv214_3
            replace hv214_3 := qI (hv214_3.symm.trans hx214_3)
            injection hv214_3 with hva_ hvn_ hvc_
            rw [hva_] at ge214_3
            rw [hvc_] at ul214_3
            have HL214_3 := qM (show Kd.V (Kd.int .u8) 5 _ w.heap.size _ _ ((rd_T28 t207 x13_2).f3) from Kd.V_mk ul214_3 ge214_3)
            clear hva_ hvn_ hvc_ ge214_3 ul214_3
            have hv214_4 := hcc214 4 _ rfl
            rw [add_field _ _ 4 (by omega)] at hv214_4
            replace hv214_4 := qI (hv214_4.symm.trans hx214_4)
            injection hv214_4 with hva_ hvn_ hvc_
            rw [hva_] at ge214_4
            rw [hvc_] at ul214_4
            have HL214_4 := qM (show Kd.V k28 28 _ w.heap.size _ _ ((rd_T28 t207 x13_2).f4) from Kd.V_mk ul214_4 ge214_4)
            clear hva_ hvn_ hvc_ ge214_4 ul214_4; clear hcc214 hce214
            have HR214_3 := qM hi214_3
            have HC214_3 := qM hl214_3
            clear hi214_3 hl214_3
            have HR214_4 := qM hi214_4
            have HC214_4 := qM hl214_4
            clear hi214_4 hl214_4
            replace p214 := eq_true p214
            replace q214 := eq_true q214
            go_upto_region 26 with (fail)
            repeat (go_quiet (fail); go_upto_region 26 with (fail))
            go_cut [124] (fun v124 wc => ∃ (kq : Nat) (x124_47 : Bool), v124 = .bool x124_47 ∧ Aside0 (rookerylaw16_GramYields.j3 kq x7_2 x8_1 x9_1 x10_2 t207 x13_2 x124_47 t175 t176 t177 t178 t181 = some r) ∧ Aside0 (kq ≤ k2) ∧ Aside0 (Kd.R Kd.string 9 wc w.heap.size (fun _ => True) u8 x8_1) ∧ Aside0 (Kd.R (Kd.int .i64) 2 wc w.heap.size (fun _ => True) u9 x9_1) ∧ Aside0 (Kd.N k28 28 wc w.heap.size (fun k_ => some k_ ≠ (u8 : Value).ownBlock ∧ some k_ ≠ (u9 : Value).ownBlock ∧ k_ ≠ gb186) (.slice (some ad214) t207.length co49) t207) ∧ Aside0 (Kd.R (Kd.int .u8) 5 wc w.heap.size (fun _ => True) (.slice Ao14 t178.length co14) t178) ∧ Aside0 (Kd.N k28 28 wc w.heap.size (fun k_ => some k_ ≠ (u8 : Value).ownBlock ∧ some k_ ≠ (u9 : Value).ownBlock ∧ some k_ ≠ ((.slice (some ad214) t207.length co49) : Value).ownBlock ∧ some k_ ≠ ((.slice Ao14 t178.length co14) : Value).ownBlock ∧ k_ ≠ gb186) (.slice Ao15 t181.length co15) t181) ∧ Aside0 (wc.heap[gb186]? = some (.cells #[.int .i64 t175, .string t176, .int .i64 t177, (.slice Ao14 t178.length co14), (.slice Ao15 t181.length co15)] 28 (0, 0))) ∧ Aside0 (Kd.C (Kd.int .u8) wc A214_3 ((rd_T28 t207 x13_2).f3).length ((rd_T28 t207 x13_2).f3)) ∧ Aside0 (Kd.C k28 wc A214_4 ((rd_T28 t207 x13_2).f4).length ((rd_T28 t207 x13_2).f4)) ∧ Aside0 (Below w.heap.size w wc))
            case first =>
             have H := HC48.out
             clear HC48
             by_cases c50 : x7_2 ≥ (x9_1.length : Int)
             ·
              rw [if_pos c50] at H
              have c50b0 : decide ((x9_1.length : Int) ≤ x7_2) = true := decide_eq_true c50
              clear c50
              (first | rw [c50b0] | (simp only [i64_w, i32_w]; rw [c50b0]) | skip)
              have H' := qM H
              clear H
              obtain ⟨Ao51, co51, eo51⟩ := Kd.R_slice HO_9.out
              subst eo51
              go_wp2
              repeat (go_quiet (fail); try go_wp2)
              go_meet
              case rel => exact ⟨_, (true), qS, H', ⟨by have := HK1.out; have := HK2.out; first | omega | exact Nat.le_refl _⟩, ⟨qR HO_8.out⟩, ⟨qR HO_9.out⟩, ⟨qN HO_12.out⟩, ⟨qR HO_187003.out⟩, ⟨qN HO_187004.out⟩, ⟨qK BK186.out⟩, ⟨by repeat (first | (with_reducible exact HR214_3.out) | (with_reducible refine Kd.C_alloc ?_ _) | (with_reducible refine Kd.C_drewN ?_ _) | (with_reducible refine Kd.C_drew ?_) | exact HR214_3.out)⟩, ⟨by repeat (first | (with_reducible exact HR214_4.out) | (with_reducible refine Kd.C_alloc ?_ _) | (with_reducible refine Kd.C_drewN ?_ _) | (with_reducible refine Kd.C_drew ?_) | exact HR214_4.out)⟩, ⟨by repeat (first | (with_reducible first | exact HB.out | apply below_alloc | apply pw_below_drewN | apply below_drew1 | refine below_set ?_ GE186.out) | exact HB.out)⟩⟩
             ·
              rw [if_neg c50] at H
              have c50b0 : decide ((x9_1.length : Int) ≤ x7_2) = false := decide_eq_false c50
              clear c50
              (first | rw [c50b0] | (simp only [i64_w, i32_w]; rw [c50b0]) | skip)
              by_cases c52 : 0 ≤ x7_2
              ·
               rw [if_pos c52] at H
               have c52b0 : decide (0 ≤ x7_2) = true := decide_eq_true c52
               clear c52
               by_cases c53 : x7_2 < (x9_1.length : Int)
               ·
                rw [if_pos c53] at H
                have c53b0 : decide (x7_2 < (x9_1.length : Int)) = true := decide_eq_true c53
                clear c53
                have H' := qM H
                clear H
                obtain ⟨Ao54, co54, eo54⟩ := Kd.R_slice HO_9.out
                subst eo54
                have p215 : 0 ≤ (x7_2 : Int) := qD
                have q215 : x7_2 < (x9_1.length : Int) := qD
                obtain ⟨ad215, e215, hx215_0⟩ := Kd.at_int (Kd.R_reads' HO_9.out).2.2 x7_2 p215 q215
                cases e215
                replace p215 := eq_true p215
                replace q215 := eq_true q215
                have p216 : 0 ≤ (x13_2 : Int) := qD
                have q216 : x13_2 < (t207.length : Int) := qD
                obtain ⟨ad216, A216_3, c216_3, A216_4, c216_4, e216, hx216_0, hx216_1, hx216_2, hx216_3, hx216_4, hl216_3, hi216_3, hl216_4, hi216_4⟩ := at_T28 (Kd.N_reads' HO_12.out).2.2 x13_2 p216 q216
                obtain rfl : ad214 = ad216 := (by injection e216)
                obtain ⟨ce216, hce216, hMe216, hcc216⟩ := Kd.N_get HO_12.out z28 x13_2 p216 (by first | exact q216 | exact qD | (have e_ := (Kd.N_reads' HO_12.out).1; omega))
                obtain ⟨ua216_3, uc216_3, ua216_4, uc216_4, rfl, ul216_3, ge216_3, ul216_4, ge216_4⟩ := k28_openF hMe216
                have hv216_3 := hcc216 3 _ rfl
                rw [add_field _ _ 3 (by omega)] at hv216_3
                replace hv216_3 := qI (hv216_3.symm.trans hx216_3)
                injection hv216_3 with hva_ hvn_ hvc_
                rw [hva_] at ge216_3
                rw [hvc_] at ul216_3
                have HL216_3 := qM (show Kd.V (Kd.int .u8) 5 _ w.heap.size _ _ ((rd_T28 t207 x13_2).f3) from Kd.V_mk ul216_3 ge216_3)
                clear hva_ hvn_ hvc_ ge216_3 ul216_3
                have hv216_4 := hcc216 4 _ rfl
                rw [add_field _ _ 4 (by omega)] at hv216_4
                replace hv216_4 := qI (hv216_4.symm.trans hx216_4)
                injection hv216_4 with hva_ hvn_ hvc_
                rw [hva_] at ge216_4
                rw [hvc_] at ul216_4
                have HL216_4 := qM (show Kd.V k28 28 _ w.heap.size _ _ ((rd_T28 t207 x13_2).f4) from Kd.V_mk ul216_4 ge216_4)
                clear hva_ hvn_ hvc_ ge216_4 ul216_4; clear hcc216 hce216
                have HR216_3 := qM hi216_3
                have HC216_3 := qM hl216_3
                clear hi216_3 hl216_3
                have HR216_4 := qM hi216_4
                have HC216_4 := qM hl216_4
                clear hi216_4 hl216_4
                replace p216 := eq_true p216
                replace q216 := eq_true q216
                go_wp2
                repeat (go_quiet (fail); try go_wp2)
                go_meet
                case rel => exact ⟨_, (((rd x9_1 x7_2) != ((rd_T28 t207 x13_2).f2))), qS, H', ⟨by have := HK1.out; have := HK2.out; first | omega | exact Nat.le_refl _⟩, ⟨qR HO_8.out⟩, ⟨qR HO_9.out⟩, ⟨qN HO_12.out⟩, ⟨qR HO_187003.out⟩, ⟨qN HO_187004.out⟩, ⟨qK BK186.out⟩, ⟨by repeat (first | (with_reducible exact HR214_3.out) | (with_reducible refine Kd.C_alloc ?_ _) | (with_reducible refine Kd.C_drewN ?_ _) | (with_reducible refine Kd.C_drew ?_) | exact HR214_3.out)⟩, ⟨by repeat (first | (with_reducible exact HR214_4.out) | (with_reducible refine Kd.C_alloc ?_ _) | (with_reducible refine Kd.C_drewN ?_ _) | (with_reducible refine Kd.C_drew ?_) | exact HR214_4.out)⟩, ⟨by repeat (first | (with_reducible first | exact HB.out | apply below_alloc | apply pw_below_drewN | apply below_drew1 | refine below_set ?_ GE186.out) | exact HB.out)⟩⟩
               ·
                rw [if_neg c53] at H
                exact absurd H (by simp)
              ·
               rw [if_neg c52] at H
               exact absurd H (by simp)
            case rest =>
             clear HC48; try clear c1; try clear p1; try clear q1; try clear hx1; try clear c2; try clear p2; try clear q2; try clear hx2; try clear hcv2; try clear c3; try clear hcv3; try clear c4; try clear hcv4; try clear c5; try clear c5b0; try clear c5b1; try clear c6; try clear p6; try clear c7; try clear c7b0; try clear c7b1; try clear c16; try clear c16b0; try clear c18; try clear c18b0; try clear p18; try clear q18; try clear hx18; try clear c19; try clear c19b0; try clear c19b1; try clear p19; try clear q19; try clear hx19; try clear c20; try clear p20; try clear q20; try clear hx20; try clear c21; try clear c21b0; try clear p21; try clear q21; try clear hx21; try clear c22; try clear c22b0; try clear c23; try clear c24; try clear c24b0; try clear c24b1; try clear c25; try clear c26; try clear c26b0; try clear c26b1; try clear c26b2; try clear hcv29; try clear c30; try clear c30b0; try clear c30b1; try clear c30b2; try clear hcv32; try clear c33; try clear c33b0; try clear c34; try clear c34b0; try clear c35; try clear c35b0; try clear c35b1; try clear c36; try clear c37; try clear c37b0; try clear c37b1; try clear c37b2; try clear hcv39; try clear c40; try clear c40b0; try clear c40b1; try clear c40b2; try clear hcv41; try clear c45; try clear c45b0; try clear c46; try clear c46b0; try clear c47; try clear c47b0; try clear c47b1; try clear c50; try clear c50b0; try clear c52; try clear c52b0; try clear c53; try clear c53b0; try clear hcz13_0; try clear hcz13_1; try clear hcz13_2; try clear hcz13_3; try clear hcz13_4; try clear hcz43_0; try clear hcz43_1; try clear hcz43_2; try clear hcz43_3; try clear hcz43_4; try clear hfz13_0; try clear hfz13_1; try clear hfz13_2; try clear hfz13_3; try clear hfz13_4; try clear hfz43_0; try clear hfz43_1; try clear hfz43_2; try clear hfz43_3; try clear hfz43_4; try clear hx187_0; try clear hx187_1; try clear hx187_2; try clear hx187_3; try clear hx187_4; try clear hx188_0; try clear hx188_1; try clear hx188_2; try clear hx188_3; try clear hx188_4; try clear hx189_0; try clear hx189_1; try clear hx189_2; try clear hx189_3; try clear hx189_4; try clear hx193_0; try clear hx193_1; try clear hx193_2; try clear hx193_3; try clear hx193_4; try clear hx194_0; try clear hx194_1; try clear hx194_2; try clear hx194_3; try clear hx194_4; try clear hx198_0; try clear hx198_1; try clear hx198_2; try clear hx198_3; try clear hx198_4; try clear hx199_0; try clear hx199_1; try clear hx199_2; try clear hx199_3; try clear hx199_4; try clear hx200_0; try clear hx200_1; try clear hx200_2; try clear hx200_3; try clear hx200_4; try clear hx201_0; try clear hx201_1; try clear hx201_2; try clear hx201_3; try clear hx201_4; try clear hx205_0; try clear hx205_1; try clear hx205_2; try clear hx205_3; try clear hx205_4; try clear hx206_0; try clear hx206_1; try clear hx206_2; try clear hx206_3; try clear hx206_4; try clear hx214_0; try clear hx214_1; try clear hx214_2; try clear hx214_3; try clear hx214_4; try clear hx215_0; try clear hx216_0; try clear hx216_1; try clear hx216_2; try clear hx216_3; try clear hx216_4; try clear p1; try clear p18; try clear p187; try clear p188; try clear p189; try clear p19; try clear p193; try clear p194; try clear p198; try clear p199; try clear p2; try clear p20; try clear p200; try clear p201; try clear p205; try clear p206; try clear p214; try clear p215; try clear p216; try clear p6; try clear q1; try clear q18; try clear q187; try clear q188; try clear q189; try clear q19; try clear q193; try clear q194; try clear q198; try clear q199; try clear q2; try clear q20; try clear q200; try clear q201; try clear q205; try clear q206; try clear q214; try clear q215; try clear q216
             obtain ⟨kq, x124_47, rfl, HA, HJ47, HO_8, HO_9, HO_12, HO_187003, HO_187004, BK186, HR214_3, HR214_4, HB⟩ := hcut
             cases kq with
             | zero => exact absurd HA.out (by simp [rookerylaw16_GramYields.j3])
             | succ kj47 =>
              have H := HA.out
              clear HA
              simp only [rookerylaw16_GramYields.j3] at H
              by_cases c55 : x124_47 = true
              ·
               subst c55
               have H1 : (some false) = some r := by rw [if_pos rfl] at H; exact H
               clear H
               have H := H1
               clear H1
               obtain rfl := qI H
               go_wp2
               repeat (go_quiet (fail); try go_wp2)
               go_ret
               exact ⟨by first | rfl | (simp [errW_none, errW_some] <;> rfl) | (simp [*, errW_none, errW_some] <;> rfl), by repeat (first | (with_reducible first | exact HB.out | apply below_alloc | apply pw_below_drewN | apply below_drew1 | refine below_set ?_ GE186.out) | exact HB.out)⟩
              ·
               replace c55 := Bool.eq_false_iff.mpr c55
               subst c55
               have H1 : (if 0 ≤ x13_2 then (if x13_2 < (t207.length : Int) then (if (x10_2.size : Int) < (((rd_T28 t207 x13_2).f3).length : Int) then (some false) else (if 0 ≤ (((rd_T28 t207 x13_2).f3).length : Int) then (if (((rd_T28 t207 x13_2).f3).length : Int) ≤ (x10_2.size : Int) then (if (x10_2.extract 0 ((((rd_T28 t207 x13_2).f3).length : Int) : Int).toNat).toList = (strOfNums ((rd_T28 t207 x13_2).f3)).toList then (rookerylaw16_GramYields.l1 kj47 (wrap64 (x7_2 + 1)) x8_1 x9_1 (x10_2.extract ((((rd_T28 t207 x13_2).f3).length : Int) : Int).toNat x10_2.size) t207 (wrap64 (x13_2 + 1)) t175 t176 t177 t178 t181) else (some false)) else (none)) else (none))) else (none)) else (none)) = some r := by rw [if_neg (show ¬ (false = true) by decide)] at H; exact H
               clear H
               have H := H1
               clear H1
               by_cases c56 : 0 ≤ x13_2
               ·
                rw [if_pos c56] at H
                have c56b0 : decide (0 ≤ x13_2) = true := decide_eq_true c56
                clear c56
                by_cases c57 : x13_2 < (t207.length : Int)
                ·
                 rw [if_pos c57] at H
                 have c57b0 : decide (x13_2 < (t207.length : Int)) = true := decide_eq_true c57
                 clear c57
                 by_cases c58 : (x10_2.size : Int) < (((rd_T28 t207 x13_2).f3).length : Int)
                 ·
                  rw [if_pos c58] at H
                  have c58b0 : decide ((x10_2.size : Int) < (((rd_T28 t207 x13_2).f3).length : Int)) = true := decide_eq_true c58
                  have c58b1 : decide (x10_2.size < ((rd_T28 t207 x13_2).f3).length) = true := decide_eq_true (Int.ofNat_lt.mp c58)
                  clear c58
                  obtain rfl := qI H
                  have p217 : 0 ≤ (x13_2 : Int) := qD
                  have q217 : x13_2 < (t207.length : Int) := qD
                  obtain ⟨ad217, A217_3, c217_3, A217_4, c217_4, e217, hx217_0, hx217_1, hx217_2, hx217_3, hx217_4, hl217_3, hi217_3, hl217_4, hi217_4⟩ := at_T28 (Kd.N_reads' HO_12.out).2.2 x13_2 p217 q217
                  obtain rfl : ad214 = ad217 := (by injection e217)
                  obtain ⟨ce217, hce217, hMe217, hcc217⟩ := Kd.N_get HO_12.out z28 x13_2 p217 (by first | exact q217 | exact qD | (have e_ := (Kd.N_reads' HO_12.out).1; omega))
                  obtain ⟨ua217_3, uc217_3, ua217_4, uc217_4, rfl, ul217_3, ge217_3, ul217_4, ge217_4⟩ := k28_openF hMe217
                  have hv217_3 := hcc217 3 _ rfl
                  rw [add_field _ _ 3 (by omega)] at hv217_3
                  replace hv217_3 := qI (hv217_3.symm.trans hx217_3)
                  injection hv217_3 with hva_ hvn_ hvc_
                  rw [hva_] at ge217_3
                  rw [hvc_] at ul217_3
                  have HL217_3 := qM (show Kd.V (Kd.int .u8) 5 _ w.heap.size _ _ ((rd_T28 t207 x13_2).f3) from Kd.V_mk ul217_3 ge217_3)
                  clear hva_ hvn_ hvc_ ge217_3 ul217_3
                  have hv217_4 := hcc217 4 _ rfl
                  rw [add_field _ _ 4 (by omega)] at hv217_4
                  replace hv217_4 := qI (hv217_4.symm.trans hx217_4)
                  injection hv217_4 with hva_ hvn_ hvc_
                  rw [hva_] at ge217_4
                  rw [hvc_] at ul217_4
                  have HL217_4 := qM (show Kd.V k28 28 _ w.heap.size _ _ ((rd_T28 t207 x13_2).f4) from Kd.V_mk ul217_4 ge217_4)
                  clear hva_ hvn_ hvc_ ge217_4 ul217_4; clear hcc217 hce217
                  have HR217_3 := qM hi217_3
                  have HC217_3 := qM hl217_3
                  clear hi217_3 hl217_3
                  have HR217_4 := qM hi217_4
                  have HC217_4 := qM hl217_4
                  clear hi217_4 hl217_4
                  replace p217 := eq_true p217
                  replace q217 := eq_true q217
                  go_wp2
                  repeat (go_quiet (fail); try go_wp2)
                  go_ret
                  exact ⟨by first | rfl | (simp [errW_none, errW_some] <;> rfl) | (simp [*, errW_none, errW_some] <;> rfl), by repeat (first | (with_reducible first | exact HB.out | apply below_alloc | apply pw_below_drewN | apply below_drew1 | refine below_set ?_ GE186.out) | exact HB.out)⟩
                 ·
                  rw [if_neg c58] at H
                  have c58b0 : decide ((x10_2.size : Int) < (((rd_T28 t207 x13_2).f3).length : Int)) = false := decide_eq_false c58
                  have c58b1 : decide (x10_2.size < ((rd_T28 t207 x13_2).f3).length) = false := decide_eq_false (fun h => c58 (Int.ofNat_lt.mpr h))
                  clear c58
                  by_cases c59 : 0 ≤ (((rd_T28 t207 x13_2).f3).length : Int)
                  ·
                   rw [if_pos c59] at H
                   have c59b0 := eq_true c59
                   have c59b1 : decide (0 ≤ (((rd_T28 t207 x13_2).f3).length : Int)) = true := decide_eq_true c59
                   clear c59
                   by_cases c60 : (((rd_T28 t207 x13_2).f3).length : Int) ≤ (x10_2.size : Int)
                   ·
                    rw [if_pos c60] at H
                    have c60b0 := eq_true c60
                    have c60b1 : decide ((((rd_T28 t207 x13_2).f3).length : Int) ≤ (x10_2.size : Int)) = true := decide_eq_true c60
                    clear c60
                    by_cases c61 : (x10_2.extract 0 ((((rd_T28 t207 x13_2).f3).length : Int) : Int).toNat).toList = (strOfNums ((rd_T28 t207 x13_2).f3)).toList
                    ·
                     rw [if_pos c61] at H
                     have c61b0 : ((x10_2.extract 0 ((((rd_T28 t207 x13_2).f3).length : Int) : Int).toNat).toList == (strOfNums ((rd_T28 t207 x13_2).f3)).toList) = true := beq_iff_eq.mpr c61
                     have c61b1 : ((x10_2.extract 0 ((((rd_T28 t207 x13_2).f3).length : Int) : Int).toNat).toList != (strOfNums ((rd_T28 t207 x13_2).f3)).toList) = false := bne_eq_false_iff_eq.mpr c61
                     simp only [Int.toNat_natCast] at c61b0 c61b1
                     clear c61
                     have c62b0 := eq_true (qD : 0 ≤ (((rd_T28 t207 x13_2).f3).length : Int))
                     have c63b0 := eq_true (qD : (((rd_T28 t207 x13_2).f3).length : Int) ≤ (x10_2.size : Int))
                     have H' := qM H
                     clear H
                     have p217 : 0 ≤ (x13_2 : Int) := qD
                     have q217 : x13_2 < (t207.length : Int) := qD
                     obtain ⟨ad217, A217_3, c217_3, A217_4, c217_4, e217, hx217_0, hx217_1, hx217_2, hx217_3, hx217_4, hl217_3, hi217_3, hl217_4, hi217_4⟩ := at_T28 (Kd.N_reads' HO_12.out).2.2 x13_2 p217 q217
                     obtain rfl : ad214 = ad217 := (by injection e217)
                     obtain ⟨ce217, hce217, hMe217, hcc217⟩ := Kd.N_get HO_12.out z28 x13_2 p217 (by first | exact q217 | exact qD | (have e_ := (Kd.N_reads' HO_12.out).1; omega))
                     obtain ⟨ua217_3, uc217_3, ua217_4, uc217_4, rfl, ul217_3, ge217_3, ul217_4, ge217_4⟩ := k28_openF hMe217
                     have hv217_3 := hcc217 3 _ rfl
                     rw [add_field _ _ 3 (by omega)] at hv217_3
                     replace hv217_3 := qI (hv217_3.symm.trans hx217_3)
                     injection hv217_3 with hva_ hvn_ hvc_
                     rw [hva_] at ge217_3
                     rw [hvc_] at ul217_3
                     have HL217_3 := qM (show Kd.V (Kd.int .u8) 5 _ w.heap.size _ _ ((rd_T28 t207 x13_2).f3) from Kd.V_mk ul217_3 ge217_3)
                     clear hva_ hvn_ hvc_ ge217_3 ul217_3
                     have hv217_4 := hcc217 4 _ rfl
                     rw [add_field _ _ 4 (by omega)] at hv217_4
                     replace hv217_4 := qI (hv217_4.symm.trans hx217_4)
                     injection hv217_4 with hva_ hvn_ hvc_
                     rw [hva_] at ge217_4
                     rw [hvc_] at ul217_4
                     have HL217_4 := qM (show Kd.V k28 28 _ w.heap.size _ _ ((rd_T28 t207 x13_2).f4) from Kd.V_mk ul217_4 ge217_4)
                     clear hva_ hvn_ hvc_ ge217_4 ul217_4; clear hcc217 hce217
                     have HR217_3 := qM hi217_3
                     have HC217_3 := qM hl217_3
                     clear hi217_3 hl217_3
                     have HR217_4 := qM hi217_4
                     have HC217_4 := qM hl217_4
                     clear hi217_4 hl217_4
                     replace p217 := eq_true p217
                     replace q217 := eq_true q217
                     have p218 : 0 ≤ (x13_2 : Int) := qD
                     have q218 : x13_2 < (t207.length : Int) := qD
                     obtain ⟨ad218, A218_3, c218_3, A218_4, c218_4, e218, hx218_0, hx218_1, hx218_2, hx218_3, hx218_4, hl218_3, hi218_3, hl218_4, hi218_4⟩ := at_T28 (Kd.N_reads' HO_12.out).2.2 x13_2 p218 q218
                     obtain rfl : ad214 = ad218 := (by injection e218)
                     obtain ⟨ce218, hce218, hMe218, hcc218⟩ := Kd.N_get HO_12.out z28 x13_2 p218 (by first | exact q218 | exact qD | (have e_ := (Kd.N_reads' HO_12.out).1; omega))
                     obtain ⟨ua218_3, uc218_3, ua218_4, uc218_4, rfl, ul218_3, ge218_3, ul218_4, ge218_4⟩ := k28_openF hMe218
                     have hv218_3 := hcc218 3 _ rfl
                     rw [add_field _ _ 3 (by omega)] at hv218_3
                     replace hv218_3 := qI (hv218_3.symm.trans hx218_3)
                     injection hv218_3 with hva_ hvn_ hvc_
                     rw [hva_] at ge218_3
                     rw [hvc_] at ul218_3
                     have HL218_3 := qM (show Kd.V (Kd.int .u8) 5 _ w.heap.size _ _ ((rd_T28 t207 x13_2).f3) from Kd.V_mk ul218_3 ge218_3)
                     clear hva_ hvn_ hvc_ ge218_3 ul218_3
                     have hv218_4 := hcc218 4 _ rfl
                     rw [add_field _ _ 4 (by omega)] at hv218_4
                     replace hv218_4 := qI (hv218_4.symm.trans hx218_4)
                     injection hv218_4 with hva_ hvn_ hvc_
                     rw [hva_] at ge218_4
                     rw [hvc_] at ul218_4
                     have HL218_4 := qM (show Kd.V k28 28 _ w.heap.size _ _ ((rd_T28 t207 x13_2).f4) from Kd.V_mk ul218_4 ge218_4)
                     clear hva_ hvn_ hvc_ ge218_4 ul218_4; clear hcc218 hce218
                     have HR218_3 := qM hi218_3
                     have HC218_3 := qM hl218_3
                     clear hi218_3 hl218_3
                     have HR218_4 := qM hi218_4
                     have HC218_4 := qM hl218_4
                     clear hi218_4 hl218_4
                     replace p218 := eq_true p218
                     replace q218 := eq_true q218
                     have ea_ := qI (hx217_3.symm.trans hx218_3)
                     injection ea_ with ea_ en_ ec_
                     subst ea_
                     subst ec_
                     clear en_
                     have ea_ := qI (hx217_4.symm.trans hx218_4)
                     injection ea_ with ea_ en_ ec_
                     subst ea_
                     subst ec_
                     clear en_
                     have p219 : 0 ≤ (x13_2 : Int) := qD
                     have q219 : x13_2 < (t207.length : Int) := qD
                     obtain ⟨ad219, A219_3, c219_3, A219_4, c219_4, e219, hx219_0, hx219_1, hx219_2, hx219_3, hx219_4, hl219_3, hi219_3, hl219_4, hi219_4⟩ := at_T28 (Kd.N_reads' HO_12.out).2.2 x13_2 p219 q219
                     obtain rfl : ad214 = ad219 := (by injection e219)
                     obtain ⟨ce219, hce219, hMe219, hcc219⟩ := Kd.N_get HO_12.out z28 x13_2 p219 (by first | exact q219 | exact qD | (have e_ := (Kd.N_reads' HO_12.out).1; omega))
                     obtain ⟨ua219_3, uc219_3, ua219_4, uc219_4, rfl, ul219_3, ge219_3, ul219_4, ge219_4⟩ := k28_openF hMe219
                     have hv219_3 := hcc219 3 _ rfl
                     rw [add_field _ _ 3 (by omega)] at hv219_3
                     replace hv219_3 := qI (hv219_3.symm.trans hx219_3)
                     injection hv219_3 with hva_ hvn_ hvc_
                     rw [hva_] at ge219_3
                     rw [hvc_] at ul219_3
                     have HL219_3 := qM (show Kd.V (Kd.int .u8) 5 _ w.heap.size _ _ ((rd_T28 t207 x13_2).f3) from Kd.V_mk ul219_3 ge219_3)
                     clear hva_ hvn_ hvc_ ge219_3 ul219_3
                     have hv219_4 := hcc219 4 _ rfl
                     rw [add_field _ _ 4 (by omega)] at hv219_4
                     replace hv219_4 := qI (hv219_4.symm.trans hx219_4)
                     injection hv219_4 with hva_ hvn_ hvc_
                     rw [hva_] at ge219_4
                     rw [hvc_] at ul219_4
                     have HL219_4 := qM (show Kd.V k28 28 _ w.heap.size _ _ ((rd_T28 t207 x13_2).f4) from Kd.V_mk ul219_4 ge219_4)
                     clear hva_ hvn_ hvc_ ge219_4 ul219_4; clear hcc219 hce219
                     have HR219_3 := qM hi219_3
                     have HC219_3 := qM hl219_3
                     clear hi219_3 hl219_3
                     have HR219_4 := qM hi219_4
                     have HC219_4 := qM hl219_4
                     clear hi219_4 hl219_4
                     replace p219 := eq_true p219
                     replace q219 := eq_true q219
                     have ea_ := qI (hx217_3.symm.trans hx219_3)
                     injection ea_ with ea_ en_ ec_
                     subst ea_
                     subst ec_
                     clear en_
                     have ea_ := qI (hx217_4.symm.trans hx219_4)
                     injection ea_ with ea_ en_ ec_
                     subst ea_
                     subst ec_
                     clear en_
                     have hcv64 := Kd.C_string (P := Tryd.prog) (A := A217_3) (c := c217_3) Tryd.underlying25 Tryd.underlying5 Tryd.underlying9 (by repeat (first | (with_reducible exact HR219_3.out) | (with_reducible refine Kd.C_alloc ?_ _) | (with_reducible refine Kd.C_drewN ?_ _) | (with_reducible refine Kd.C_drew ?_) | exact HR219_3.out))
                     have hcq64 := fun a_ => Kd.C_string (P := Tryd.prog) (A := A217_3) (c := c217_3) Tryd.underlying25 Tryd.underlying5 Tryd.underlying9 (Kd.C_drewN HR219_3.out a_)
                     have p220 : 0 ≤ (x13_2 : Int) := qD
                     have q220 : x13_2 < (t207.length : Int) := qD
                     obtain ⟨ad220, A220_3, c220_3, A220_4, c220_4, e220, hx220_0, hx220_1, hx220_2, hx220_3, hx220_4, hl220_3, hi220_3, hl220_4, hi220_4⟩ := at_T28 (Kd.N_reads' HO_12.out).2.2 x13_2 p220 q220
                     obtain rfl : ad214 = ad220 := (by injection e220)
                     obtain ⟨ce220, hce220, hMe220, hcc220⟩ := Kd.N_get HO_12.out z28 x13_2 p220 (by first | exact q220 | exact qD | (have e_ := (Kd.N_reads' HO_12.out).1; omega))
                     obtain ⟨ua220_3, uc220_3, ua220_4, uc220_4, rfl, ul220_3, ge220_3, ul220_4, ge220_4⟩ := k28_openF hMe220
                     have hv220_3 := hcc220 3 _ rfl
                     rw [add_field _ _ 3 (by omega)] at hv220_3
                     replace hv220_3 := qI (hv220_3.symm.trans hx220_3)
                     injection hv220_3 with hva_ hvn_ hvc_
                     rw [hva_] at ge220_3
                     rw [hvc_] at ul220_3
                     have HL220_3 := qM (show Kd.V (Kd.int .u8) 5 _ w.heap.size _ _ ((rd_T28 t207 x13_2).f3) from Kd.V_mk ul220_3 ge220_3)
                     clear hva_ hvn_ hvc_ ge220_3 ul220_3
                     have hv220_4 := hcc220 4 _ rfl
                     rw [add_field _ _ 4 (by omega)] at hv220_4
                     replace hv220_4 := qI (hv220_4.symm.trans hx220_4)
                     injection hv220_4 with hva_ hvn_ hvc_
                     rw [hva_] at ge220_4
                     rw [hvc_] at ul220_4
                     have HL220_4 := qM (show Kd.V k28 28 _ w.heap.size _ _ ((rd_T28 t207 x13_2).f4) from Kd.V_mk ul220_4 ge220_4)
                     clear hva_ hvn_ hvc_ ge220_4 ul220_4; clear hcc220 hce220
                     have HR220_3 := qM hi220_3
                     have HC220_3 := qM hl220_3
                     clear hi220_3 hl220_3
                     have HR220_4 := qM hi220_4
                     have HC220_4 := qM hl220_4
                     clear hi220_4 hl220_4
                     replace p220 := eq_true p220
                     replace q220 := eq_true q220
                     have ea_ := qI (hx217_3.symm.trans hx220_3)
                     injection ea_ with ea_ en_ ec_
                     subst ea_
                     subst ec_
                     clear en_
                     have ea_ := qI (hx217_4.symm.trans hx220_4)
                     injection ea_ with ea_ en_ ec_
                     subst ea_
                     subst ec_
                     clear en_
                     go_wp2
                     repeat (go_quiet (fail); try go_wp2)
                     go_roundg kj47
                     case measure => have := HK1.out; have := HK2.out; have := HJ47.out; omega
                     case rel => exact ⟨(wrap64 (x7_2 + 1)), (x10_2.extract ((((rd_T28 t207 x13_2).f3).length : Int) : Int).toNat x10_2.size), (wrap64 (x13_2 + 1)), qS, qS, qS, H', ⟨by have := HK1.out; have := HK2.out; have := HJ47.out; omega⟩, ⟨qR HO_8.out⟩, ⟨qR HO_9.out⟩, ⟨qN HO_12.out⟩, ⟨qR HO_187003.out⟩, ⟨qN HO_187004.out⟩, ⟨qK BK186.out⟩, ⟨by repeat (first | (with_reducible first | exact HB.out | apply below_alloc | apply pw_below_drewN | apply below_drew1 | refine below_set ?_ GE186.out) | exact HB.out)⟩⟩
                    ·
                     rw [if_neg c61] at H
                     have c61b0 : ((x10_2.extract 0 ((((rd_T28 t207 x13_2).f3).length : Int) : Int).toNat).toList == (strOfNums ((rd_T28 t207 x13_2).f3)).toList) = false := beq_eq_false_iff_ne.mpr c61
                     have c61b1 : ((x10_2.extract 0 ((((rd_T28 t207 x13_2).f3).length : Int) : Int).toNat).toList != (strOfNums ((rd_T28 t207 x13_2).f3)).toList) = true := bne_iff_ne.mpr c61
                     simp only [Int.toNat_natCast] at c61b0 c61b1
                     obtain rfl := qI H
                     have p217 : 0 ≤ (x13_2 : Int) := qD
                     have q217 : x13_2 < (t207.length : Int) := qD
                     obtain ⟨ad217, A217_3, c217_3, A217_4, c217_4, e217, hx217_0, hx217_1, hx217_2, hx217_3, hx217_4, hl217_3, hi217_3, hl217_4, hi217_4⟩ := at_T28 (Kd.N_reads' HO_12.out).2.2 x13_2 p217 q217
                     obtain rfl : ad214 = ad217 := (by injection e217)
                     obtain ⟨ce217, hce217, hMe217, hcc217⟩ := Kd.N_get HO_12.out z28 x13_2 p217 (by first | exact q217 | exact qD | (have e_ := (Kd.N_reads' HO_12.out).1; omega))
                     obtain ⟨ua217_3, uc217_3, ua217_4, uc217_4, rfl, ul217_3, ge217_3, ul217_4, ge217_4⟩ := k28_openF hMe217
                     have hv217_3 := hcc217 3 _ rfl
                     rw [add_field _ _ 3 (by omega)] at hv217_3
                     replace hv217_3 := qI (hv217_3.symm.trans hx217_3)
                     injection hv217_3 with hva_ hvn_ hvc_
                     rw [hva_] at ge217_3
                     rw [hvc_] at ul217_3
                     have HL217_3 := qM (show Kd.V (Kd.int .u8) 5 _ w.heap.size _ _ ((rd_T28 t207 x13_2).f3) from Kd.V_mk ul217_3 ge217_3)
                     clear hva_ hvn_ hvc_ ge217_3 ul217_3
                     have hv217_4 := hcc217 4 _ rfl
                     rw [add_field _ _ 4 (by omega)] at hv217_4
                     replace hv217_4 := qI (hv217_4.symm.trans hx217_4)
                     injection hv217_4 with hva_ hvn_ hvc_
                     rw [hva_] at ge217_4
                     rw [hvc_] at ul217_4
                     have HL217_4 := qM (show Kd.V k28 28 _ w.heap.size _ _ ((rd_T28 t207 x13_2).f4) from Kd.V_mk ul217_4 ge217_4)
                     clear hva_ hvn_ hvc_ ge217_4 ul217_4; clear hcc217 hce217
                     have HR217_3 := qM hi217_3
                     have HC217_3 := qM hl217_3
                     clear hi217_3 hl217_3
                     have HR217_4 := qM hi217_4
                     have HC217_4 := qM hl217_4
                     clear hi217_4 hl217_4
                     replace p217 := eq_true p217
                     replace q217 := eq_true q217
                     have p218 : 0 ≤ (x13_2 : Int) := qD
                     have q218 : x13_2 < (t207.length : Int) := qD
                     obtain ⟨ad218, A218_3, c218_3, A218_4, c218_4, e218, hx218_0, hx218_1, hx218_2, hx218_3, hx218_4, hl218_3, hi218_3, hl218_4, hi218_4⟩ := at_T28 (Kd.N_reads' HO_12.out).2.2 x13_2 p218 q218
                     obtain rfl : ad214 = ad218 := (by injection e218)
                     obtain ⟨ce218, hce218, hMe218, hcc218⟩ := Kd.N_get HO_12.out z28 x13_2 p218 (by first | exact q218 | exact qD | (have e_ := (Kd.N_reads' HO_12.out).1; omega))
                     obtain ⟨ua218_3, uc218_3, ua218_4, uc218_4, rfl, ul218_3, ge218_3, ul218_4, ge218_4⟩ := k28_openF hMe218
                     have hv218_3 := hcc218 3 _ rfl
                     rw [add_field _ _ 3 (by omega)] at hv218_3
                     replace hv218_3 := qI (hv218_3.symm.trans hx218_3)
                     injection hv218_3 with hva_ hvn_ hvc_
                     rw [hva_] at ge218_3
                     rw [hvc_] at ul218_3
                     have HL218_3 := qM (show Kd.V (Kd.int .u8) 5 _ w.heap.size _ _ ((rd_T28 t207 x13_2).f3) from Kd.V_mk ul218_3 ge218_3)
                     clear hva_ hvn_ hvc_ ge218_3 ul218_3
                     have hv218_4 := hcc218 4 _ rfl
                     rw [add_field _ _ 4 (by omega)] at hv218_4
                     replace hv218_4 := qI (hv218_4.symm.trans hx218_4)
                     injection hv218_4 with hva_ hvn_ hvc_
                     rw [hva_] at ge218_4
                     rw [hvc_] at ul218_4
                     have HL218_4 := qM (show Kd.V k28 28 _ w.heap.size _ _ ((rd_T28 t207 x13_2).f4) from Kd.V_mk ul218_4 ge218_4)
                     clear hva_ hvn_ hvc_ ge218_4 ul218_4; clear hcc218 hce218
                     have HR218_3 := qM hi218_3
                     have HC218_3 := qM hl218_3
                     clear hi218_3 hl218_3
                     have HR218_4 := qM hi218_4
                     have HC218_4 := qM hl218_4
                     clear hi218_4 hl218_4
                     replace p218 := eq_true p218
                     replace q218 := eq_true q218
                     have ea_ := qI (hx217_3.symm.trans hx218_3)
                     injection ea_ with ea_ en_ ec_
                     subst ea_
                     subst ec_
                     clear en_
                     have ea_ := qI (hx217_4.symm.trans hx218_4)
                     injection ea_ with ea_ en_ ec_
                     subst ea_
                     subst ec_
                     clear en_
                     have p219 : 0 ≤ (x13_2 : Int) := qD
                     have q219 : x13_2 < (t207.length : Int) := qD
                     obtain ⟨ad219, A219_3, c219_3, A219_4, c219_4, e219, hx219_0, hx219_1, hx219_2, hx219_3, hx219_4, hl219_3, hi219_3, hl219_4, hi219_4⟩ := at_T28 (Kd.N_reads' HO_12.out).2.2 x13_2 p219 q219
                     obtain rfl : ad214 = ad219 := (by injection e219)
                     obtain ⟨ce219, hce219, hMe219, hcc219⟩ := Kd.N_get HO_12.out z28 x13_2 p219 (by first | exact q219 | exact qD | (have e_ := (Kd.N_reads' HO_12.out).1; omega))
                     obtain ⟨ua219_3, uc219_3, ua219_4, uc219_4, rfl, ul219_3, ge219_3, ul219_4, ge219_4⟩ := k28_openF hMe219
                     have hv219_3 := hcc219 3 _ rfl
                     rw [add_field _ _ 3 (by omega)] at hv219_3
                     replace hv219_3 := qI (hv219_3.symm.trans hx219_3)
                     injection hv219_3 with hva_ hvn_ hvc_
                     rw [hva_] at ge219_3
                     rw [hvc_] at ul219_3
                     have HL219_3 := qM (show Kd.V (Kd.int .u8) 5 _ w.heap.size _ _ ((rd_T28 t207 x13_2).f3) from Kd.V_mk ul219_3 ge219_3)
                     clear hva_ hvn_ hvc_ ge219_3 ul219_3
                     have hv219_4 := hcc219 4 _ rfl
                     rw [add_field _ _ 4 (by omega)] at hv219_4
                     replace hv219_4 := qI (hv219_4.symm.trans hx219_4)
                     injection hv219_4 with hva_ hvn_ hvc_
                     rw [hva_] at ge219_4
                     rw [hvc_] at ul219_4
                     have HL219_4 := qM (show Kd.V k28 28 _ w.heap.size _ _ ((rd_T28 t207 x13_2).f4) from Kd.V_mk ul219_4 ge219_4)
                     clear hva_ hvn_ hvc_ ge219_4 ul219_4; clear hcc219 hce219
                     have HR219_3 := qM hi219_3
                     have HC219_3 := qM hl219_3
                     clear hi219_3 hl219_3
                     have HR219_4 := qM hi219_4
                     have HC219_4 := qM hl219_4
                     clear hi219_4 hl219_4
                     replace p219 := eq_true p219
                     replace q219 := eq_true q219
                     have ea_ := qI (hx217_3.symm.trans hx219_3)
                     injection ea_ with ea_ en_ ec_
                     subst ea_
                     subst ec_
                     clear en_
                     have ea_ := qI (hx217_4.symm.trans hx219_4)
                     injection ea_ with ea_ en_ ec_
                     subst ea_
                     subst ec_
                     clear en_
                     have hcv65 := Kd.C_string (P := Tryd.prog) (A := A217_3) (c := c217_3) Tryd.underlying25 Tryd.underlying5 Tryd.underlying9 (by repeat (first | (with_reducible exact HR219_3.out) | (with_reducible refine Kd.C_alloc ?_ _) | (with_reducible refine Kd.C_drewN ?_ _) | (with_reducible refine Kd.C_drew ?_) | exact HR219_3.out))
                     have hcq65 := fun a_ => Kd.C_string (P := Tryd.prog) (A := A217_3) (c := c217_3) Tryd.underlying25 Tryd.underlying5 Tryd.underlying9 (Kd.C_drewN HR219_3.out a_)
                     go_wp2
                     repeat (go_quiet (fail); try go_wp2)
                     go_ret
                     exact ⟨by first | rfl | (simp [errW_none, errW_some] <;> rfl) | (simp [*, errW_none, errW_some] <;> rfl), by repeat (first | (with_reducible first | exact HB.out | apply below_alloc | apply pw_below_drewN | apply below_drew1 | refine below_set ?_ GE186.out) | exact HB.out)⟩
                   ·
                    rw [if_neg c60] at H
                    exact absurd H (by simp)
                  ·
                   rw [if_neg c59] at H
                   exact absurd H (by simp)
                ·
                 rw [if_neg c57] at H
                 exact absurd H (by simp)
               ·
                rw [if_neg c56] at H
                exact absurd H (by simp)
           ·
            rw [if_neg c47] at H
            have c47b0 : (((rd_T28 t207 x13_2).f0) == 1) = false := beq_eq_false_iff_ne.mpr c47
            have c47b1 : (((rd_T28 t207 x13_2).f0) != 1) = true := bne_iff_ne.mpr c47
            by_cases c66 : (x10_2.size : Int) < (((rd_T28 t207 x13_2).f3).length : Int)
            ·
             rw [if_pos c66] at H
             have c66b0 : decide ((x10_2.size : Int) < (((rd_T28 t207 x13_2).f3).length : Int)) = true := decide_eq_true c66
             have c66b1 : decide (x10_2.size < ((rd_T28 t207 x13_2).f3).length) = true := decide_eq_true (Int.ofNat_lt.mp c66)
             clear c66
             obtain rfl := qI H
             obtain ⟨Ao67, co67, eo67⟩ := Kd.N_slice HO_12.out
             subst eo67
             have p214 : 0 ≤ (x13_2 : Int) := qD
             have q214 : x13_2 < (t207.length : Int) := qD
             obtain ⟨ad214, A214_3, c214_3, A214_4, c214_4, e214, hx214_0, hx214_1, hx214_2, hx214_3, hx214_4, hl214_3, hi214_3, hl214_4, hi214_4⟩ := at_T28 (Kd.N_reads' HO_12.out).2.2 x13_2 p214 q214
             cases e214
             obtain ⟨ce214, hce214, hMe214, hcc214⟩ := Kd.N_get HO_12.out z28 x13_2 p214 (by first | exact q214 | exact qD | (have e_ := (Kd.N_reads' HO_12.out).1; omega))
             obtain ⟨ua214_3, uc214_3, ua214_4, uc214_4, rfl, ul214_3, ge214_3, ul214_4, ge214_4⟩ := k28_openF hMe214
             have hv214_3 := hcc214 3 _ rfl
             rw [add_field _ _ 3 (by omega)] at hv214_3
             replace hv214_3 := qI (hv214_3.symm.trans hx214_3)
             injection hv214_3 with hva_ hvn_ hvc_
             rw [hva_] at ge214_3
             rw [hvc_] at ul214_3
             have HL214_3 := qM (show Kd.V (Kd.int .u8) 5 _ w.heap.size _ _ ((rd_T28 t207 x13_2).f3) from Kd.V_mk ul214_3 ge214_3)
             clear hva_ hvn_ hvc_ ge214_3 ul214_3
             have hv214_4 := hcc214 4 _ rfl
             rw [add_field _ _ 4 (by omega)] at hv214_4
             replace hv214_4 := qI (hv214_4.symm.trans hx214_4)
             injection hv214_4 with hva_ hvn_ hvc_
             rw [hva_] at ge214_4
             rw [hvc_] at ul214_4
             have HL214_4 := qM (show Kd.V k28 28 _ w.heap.size _ _ ((rd_T28 t207 x13_2).f4) from Kd.V_mk ul214_4 ge214_4)
             clear hva_ hvn_ hvc_ ge214_4 ul214_4; clear hcc214 hce214
             have HR214_3 := qM hi214_3
             have HC214_3 := qM hl214_3
             clear hi214_3 hl214_3
             have HR214_4 := qM hi214_4
             have HC214_4 := qM hl214_4
             clear hi214_4 hl214_4
             replace p214 := eq_true p214
             replace q214 := eq_true q214
             have p221 : 0 ≤ (x13_2 : Int) := qD
             have q221 : x13_2 < (t207.length : Int) := qD
             obtain ⟨ad221, A221_3, c221_3, A221_4, c221_4, e221, hx221_0, hx221_1, hx221_2, hx221_3, hx221_4, hl221_3, hi221_3, hl221_4, hi221_4⟩ := at_T28 (Kd.N_reads' HO_12.out).2.2 x13_2 p221 q221
             obtain rfl : ad214 = ad221 := (by injection e221)
             obtain ⟨ce221, hce221, hMe221, hcc221⟩ := Kd.N_get HO_12.out z28 x13_2 p221 (by first | exact q221 | exact qD | (have e_ := (Kd.N_reads' HO_12.out).1; omega))
             obtain ⟨ua221_3, uc221_3, ua221_4, uc221_4, rfl, ul221_3, ge221_3, ul221_4, ge221_4⟩ := k28_openF hMe221
             have hv221_3 := hcc221 3 _ rfl
             rw [add_field _ _ 3 (by omega)] at hv221_3
             replace hv221_3 := qI (hv221_3.symm.trans hx221_3)
             injection hv221_3 with hva_ hvn_ hvc_
             rw [hva_] at ge221_3
             rw [hvc_] at ul221_3
             have HL221_3 := qM (show Kd.V (Kd.int .u8) 5 _ w.heap.size _ _ ((rd_T28 t207 x13_2).f3) from Kd.V_mk ul221_3 ge221_3)
             clear hva_ hvn_ hvc_ ge221_3 ul221_3
             have hv221_4 := hcc221 4 _ rfl
             rw [add_field _ _ 4 (by omega)] at hv221_4
             replace hv221_4 := qI (hv221_4.symm.trans hx221_4)
             injection hv221_4 with hva_ hvn_ hvc_
             rw [hva_] at ge221_4
             rw [hvc_] at ul221_4
             have HL221_4 := qM (show Kd.V k28 28 _ w.heap.size _ _ ((rd_T28 t207 x13_2).f4) from Kd.V_mk ul221_4 ge221_4)
             clear hva_ hvn_ hvc_ ge221_4 ul221_4; clear hcc221 hce221
             have HR221_3 := qM hi221_3
             have HC221_3 := qM hl221_3
             clear hi221_3 hl221_3
             have HR221_4 := qM hi221_4
             have HC221_4 := qM hl221_4
             clear hi221_4 hl221_4
             replace p221 := eq_true p221
             replace q221 := eq_true q221
             have ea_ := qI (hx214_3.symm.trans hx221_3)
             injection ea_ with ea_ en_ ec_
             subst ea_
             subst ec_
             clear en_
             have ea_ := qI (hx214_4.symm.trans hx221_4)
             injection ea_ with ea_ en_ ec_
             subst ea_
             subst ec_
             clear en_
             go_wp2
             repeat (go_quiet (fail); try go_wp2)
             go_ret
             exact ⟨by first | rfl | (simp [errW_none, errW_some] <;> rfl) | (simp [*, errW_none, errW_some] <;> rfl), by repeat (first | (with_reducible first | exact HB.out | apply below_alloc | apply pw_below_drewN | apply below_drew1 | refine below_set ?_ GE186.out) | exact HB.out)⟩
            ·
             rw [if_neg c66] at H
             have c66b0 : decide ((x10_2.size : Int) < (((rd_T28 t207 x13_2).f3).length : Int)) = false := decide_eq_false c66
             have c66b1 : decide (x10_2.size < ((rd_T28 t207 x13_2).f3).length) = false := decide_eq_false (fun h => c66 (Int.ofNat_lt.mpr h))
             clear c66
             by_cases c68 : 0 ≤ (((rd_T28 t207 x13_2).f3).length : Int)
             ·
              rw [if_pos c68] at H
              have c68b0 := eq_true c68
              have c68b1 : decide (0 ≤ (((rd_T28 t207 x13_2).f3).length : Int)) = true := decide_eq_true c68
              clear c68
              by_cases c69 : (((rd_T28 t207 x13_2).f3).length : Int) ≤ (x10_2.size : Int)
              ·
               rw [if_pos c69] at H
               have c69b0 := eq_true c69
               have c69b1 : decide ((((rd_T28 t207 x13_2).f3).length : Int) ≤ (x10_2.size : Int)) = true := decide_eq_true c69
               clear c69
               by_cases c70 : (x10_2.extract 0 ((((rd_T28 t207 x13_2).f3).length : Int) : Int).toNat).toList = (strOfNums ((rd_T28 t207 x13_2).f3)).toList
               ·
                rw [if_pos c70] at H
                have c70b0 : ((x10_2.extract 0 ((((rd_T28 t207 x13_2).f3).length : Int) : Int).toNat).toList == (strOfNums ((rd_T28 t207 x13_2).f3)).toList) = true := beq_iff_eq.mpr c70
                have c70b1 : ((x10_2.extract 0 ((((rd_T28 t207 x13_2).f3).length : Int) : Int).toNat).toList != (strOfNums ((rd_T28 t207 x13_2).f3)).toList) = false := bne_eq_false_iff_eq.mpr c70
                simp only [Int.toNat_natCast] at c70b0 c70b1
                clear c70
                have c71b0 := eq_true (qD : 0 ≤ (((rd_T28 t207 x13_2).f3).length : Int))
                have c72b0 := eq_true (qD : (((rd_T28 t207 x13_2).f3).length : Int) ≤ (x10_2.size : Int))
                have H' := qM H
                clear H
                obtain ⟨Ao73, co73, eo73⟩ := Kd.N_slice HO_12.out
                subst eo73
                have p214 : 0 ≤ (x13_2 : Int) := qD
                have q214 : x13_2 < (t207.length : Int) := qD
                obtain ⟨ad214, A214_3, c214_3, A214_4, c214_4, e214, hx214_0, hx214_1, hx214_2, hx214_3, hx214_4, hl214_3, hi214_3, hl214_4, hi214_4⟩ := at_T28 (Kd.N_reads' HO_12.out).2.2 x13_2 p214 q214
                cases e214
                obtain ⟨ce214, hce214, hMe214, hcc214⟩ := Kd.N_get HO_12.out z28 x13_2 p214 (by first | exact q214 | exact qD | (have e_ := (Kd.N_reads' HO_12.out).1; omega))
                obtain ⟨ua214_3, uc214_3, ua214_4, uc214_4, rfl, ul214_3, ge214_3, ul214_4, ge214_4⟩ := k28_openF hMe214
                have hv214_3 := hcc214 3 _ rfl
                rw [add_field _ _ 3 (by omega)] at hv214_3
                replace hv214_3 := qI (hv214_3.symm.trans hx214_3)
                injection hv214_3 with hva_ hvn_ hvc_
                rw [hva_] at ge214_3
                rw [hvc_] at ul214_3
                have HL214_3 := qM (show Kd.V (Kd.int .u8) 5 _ w.heap.size _ _ ((rd_T28 t207 x13_2).f3) from Kd.V_mk ul214_3 ge214_3)
                clear hva_ hvn_ hvc_ ge214_3 ul214_3
                have hv214_4 := hcc214 4 _ rfl
                rw [add_field _ _ 4 (by omega)] at hv214_4
                replace hv214_4 := qI (hv214_4.symm.trans hx214_4)
                injection hv214_4 with hva_ hvn_ hvc_
                rw [hva_] at ge214_4
                rw [hvc_] at ul214_4
                have HL214_4 := qM (show Kd.V k28 28 _ w.heap.size _ _ ((rd_T28 t207 x13_2).f4) from Kd.V_mk ul214_4 ge214_4)
                clear hva_ hvn_ hvc_ ge214_4 ul214_4; clear hcc214 hce214
                have HR214_3 := qM hi214_3
                have HC214_3 := qM hl214_3
                clear hi214_3 hl214_3
                have HR214_4 := qM hi214_4
                have HC214_4 := qM hl214_4
                clear hi214_4 hl214_4
                replace p214 := eq_true p214
                replace q214 := eq_true q214
                have p221 : 0 ≤ (x13_2 : Int) := qD
                have q221 : x13_2 < (t207.length : Int) := qD
                obtain ⟨ad221, A221_3, c221_3, A221_4, c221_4, e221, hx221_0, hx221_1, hx221_2, hx221_3, hx221_4, hl221_3, hi221_3, hl221_4, hi221_4⟩ := at_T28 (Kd.N_reads' HO_12.out).2.2 x13_2 p221 q221
                obtain rfl : ad214 = ad221 := (by injection e221)
                obtain ⟨ce221, hce221, hMe221, hcc221⟩ := Kd.N_get HO_12.out z28 x13_2 p221 (by first | exact q221 | exact qD | (have e_ := (Kd.N_reads' HO_12.out).1; omega))
                obtain ⟨ua221_3, uc221_3, ua221_4, uc221_4, rfl, ul221_3, ge221_3, ul221_4, ge221_4⟩ := k28_openF hMe221
                have hv221_3 := hcc221 3 _ rfl
                rw [add_field _ _ 3 (by omega)] at hv221_3
                replace hv221_3 := qI (hv221_3.symm.trans hx221_3)
                injection hv221_3 with hva_ hvn_ hvc_
                rw [hva_] at ge221_3
                rw [hvc_] at ul221_3
                have HL221_3 := qM (show Kd.V (Kd.int .u8) 5 _ w.heap.size _ _ ((rd_T28 t207 x13_2).f3) from Kd.V_mk ul221_3 ge221_3)
                clear hva_ hvn_ hvc_ ge221_3 ul221_3
                have hv221_4 := hcc221 4 _ rfl
                rw [add_field _ _ 4 (by omega)] at hv221_4
                replace hv221_4 := qI (hv221_4.symm.trans hx221_4)
                injection hv221_4 with hva_ hvn_ hvc_
                rw [hva_] at ge221_4
                rw [hvc_] at ul221_4
                have HL221_4 := qM (show Kd.V k28 28 _ w.heap.size _ _ ((rd_T28 t207 x13_2).f4) from Kd.V_mk ul221_4 ge221_4)
                clear hva_ hvn_ hvc_ ge221_4 ul221_4; clear hcc221 hce221
                have HR221_3 := qM hi221_3
                have HC221_3 := qM hl221_3
                clear hi221_3 hl221_3
                have HR221_4 := qM hi221_4
                have HC221_4 := qM hl221_4
                clear hi221_4 hl221_4
                replace p221 := eq_true p221
                replace q221 := eq_true q221
                have ea_ := qI (hx214_3.symm.trans hx221_3)
                injection ea_ with ea_ en_ ec_
                subst ea_
                subst ec_
                clear en_
                have ea_ := qI (hx214_4.symm.trans hx221_4)
                injection ea_ with ea_ en_ ec_
                subst ea_
                subst ec_
                clear en_
                have p222 : 0 ≤ (x13_2 : Int) := qD
                have q222 : x13_2 < (t207.length : Int) := qD
                obtain ⟨ad222, A222_3, c222_3, A222_4, c222_4, e222, hx222_0, hx222_1, hx222_2, hx222_3, hx222_4, hl222_3, hi222_3, hl222_4, hi222_4⟩ := at_T28 (Kd.N_reads' HO_12.out).2.2 x13_2 p222 q222
                obtain rfl : ad214 = ad222 := (by injection e222)
                obtain ⟨ce222, hce222, hMe222, hcc222⟩ := Kd.N_get HO_12.out z28 x13_2 p222 (by first | exact q222 | exact qD | (have e_ := (Kd.N_reads' HO_12.out).1; omega))
                obtain ⟨ua222_3, uc222_3, ua222_4, uc222_4, rfl, ul222_3, ge222_3, ul222_4, ge222_4⟩ := k28_openF hMe222
                have hv222_3 := hcc222 3 _ rfl
                rw [add_field _ _ 3 (by omega)] at hv222_3
                replace hv222_3 := qI (hv222_3.symm.trans hx222_3)
                injection hv222_3 with hva_ hvn_ hvc_
                rw [hva_] at ge222_3
                rw [hvc_] at ul222_3
                have HL222_3 := qM (show Kd.V (Kd.int .u8) 5 _ w.heap.size _ _ ((rd_T28 t207 x13_2).f3) from Kd.V_mk ul222_3 ge222_3)
                clear hva_ hvn_ hvc_ ge222_3 ul222_3
                have hv222_4 := hcc222 4 _ rfl
                rw [add_field _ _ 4 (by omega)] at hv222_4
                replace hv222_4 := qI (hv222_4.symm.trans hx222_4)
                injection hv222_4 with hva_ hvn_ hvc_
                rw [hva_] at ge222_4
                rw [hvc_] at ul222_4
                have HL222_4 := qM (show Kd.V k28 28 _ w.heap.size _ _ ((rd_T28 t207 x13_2).f4) from Kd.V_mk ul222_4 ge222_4)
                clear hva_ hvn_ hvc_ ge222_4 ul222_4; clear hcc222 hce222
                have HR222_3 := qM hi222_3
                have HC222_3 := qM hl222_3
                clear hi222_3 hl222_3
                have HR222_4 := qM hi222_4
                have HC222_4 := qM hl222_4
                clear hi222_4 hl222_4
                replace p222 := eq_true p222
                replace q222 := eq_true q222
                have ea_ := qI (hx214_3.symm.trans hx222_3)
                injection ea_ with ea_ en_ ec_
                subst ea_
                subst ec_
                clear en_
                have ea_ := qI (hx214_4.symm.trans hx222_4)
                injection ea_ with ea_ en_ ec_
                subst ea_
                subst ec_
                clear en_
                have p223 : 0 ≤ (x13_2 : Int) := qD
                have q223 : x13_2 < (t207.length : Int) := qD
                obtain ⟨ad223, A223_3, c223_3, A223_4, c223_4, e223, hx223_0, hx223_1, hx223_2, hx223_3, hx223_4, hl223_3, hi223_3, hl223_4, hi223_4⟩ := at_T28 (Kd.N_reads' HO_12.out).2.2 x13_2 p223 q223
                obtain rfl : ad214 = ad223 := (by injection e223)
                obtain ⟨ce223, hce223, hMe223, hcc223⟩ := Kd.N_get HO_12.out z28 x13_2 p223 (by first | exact q223 | exact qD | (have e_ := (Kd.N_reads' HO_12.out).1; omega))
                obtain ⟨ua223_3, uc223_3, ua223_4, uc223_4, rfl, ul223_3, ge223_3, ul223_4, ge223_4⟩ := k28_openF hMe223
                have hv223_3 := hcc223 3 _ rfl
                rw [add_field _ _ 3 (by omega)] at hv223_3
                replace hv223_3 := qI (hv223_3.symm.trans hx223_3)
                injection hv223_3 with hva_ hvn_ hvc_
                rw [hva_] at ge223_3
                rw [hvc_] at ul223_3
                have HL223_3 := qM (show Kd.V (Kd.int .u8) 5 _ w.heap.size _ _ ((rd_T28 t207 x13_2).f3) from Kd.V_mk ul223_3 ge223_3)
                clear hva_ hvn_ hvc_ ge223_3 ul223_3
                have hv223_4 := hcc223 4 _ rfl
                rw [add_field _ _ 4 (by omega)] at hv223_4
                replace hv223_4 := qI (hv223_4.symm.trans hx223_4)
                injection hv223_4 with hva_ hvn_ hvc_
                rw [hva_] at ge223_4
                rw [hvc_] at ul223_4
                have HL223_4 := qM (show Kd.V k28 28 _ w.heap.size _ _ ((rd_T28 t207 x13_2).f4) from Kd.V_mk ul223_4 ge223_4)
                clear hva_ hvn_ hvc_ ge223_4 ul223_4; clear hcc223 hce223
                have HR223_3 := qM hi223_3
                have HC223_3 := qM hl223_3
                clear hi223_3 hl223_3
                have HR223_4 := qM hi223_4
                have HC223_4 := qM hl223_4
                clear hi223_4 hl223_4
                replace p223 := eq_true p223
                replace q223 := eq_true q223
                have ea_ := qI (hx214_3.symm.trans hx223_3)
                injection ea_ with ea_ en_ ec_
                subst ea_
                subst ec_
                clear en_
                have ea_ := qI (hx214_4.symm.trans hx223_4)
                injection ea_ with ea_ en_ ec_
                subst ea_
                subst ec_
                clear en_
                have hcv74 := Kd.C_string (P := Tryd.prog) (A := A214_3) (c := c214_3) Tryd.underlying25 Tryd.underlying5 Tryd.underlying9 (by repeat (first | (with_reducible exact HR223_3.out) | (with_reducible refine Kd.C_alloc ?_ _) | (with_reducible refine Kd.C_drewN ?_ _) | (with_reducible refine Kd.C_drew ?_) | exact HR223_3.out))
                have hcq74 := fun a_ => Kd.C_string (P := Tryd.prog) (A := A214_3) (c := c214_3) Tryd.underlying25 Tryd.underlying5 Tryd.underlying9 (Kd.C_drewN HR223_3.out a_)
                have p224 : 0 ≤ (x13_2 : Int) := qD
                have q224 : x13_2 < (t207.length : Int) := qD
                obtain ⟨ad224, A224_3, c224_3, A224_4, c224_4, e224, hx224_0, hx224_1, hx224_2, hx224_3, hx224_4, hl224_3, hi224_3, hl224_4, hi224_4⟩ := at_T28 (Kd.N_reads' HO_12.out).2.2 x13_2 p224 q224
                obtain rfl : ad214 = ad224 := (by injection e224)
                obtain ⟨ce224, hce224, hMe224, hcc224⟩ := Kd.N_get HO_12.out z28 x13_2 p224 (by first | exact q224 | exact qD | (have e_ := (Kd.N_reads' HO_12.out).1; omega))
                obtain ⟨ua224_3, uc224_3, ua224_4, uc224_4, rfl, ul224_3, ge224_3, ul224_4, ge224_4⟩ := k28_openF hMe224
                have hv224_3 := hcc224 3 _ rfl
                rw [add_field _ _ 3 (by omega)] at hv224_3
                replace hv224_3 := qI (hv224_3.symm.trans hx224_3)
                injection hv224_3 with hva_ hvn_ hvc_
                rw [hva_] at ge224_3
                rw [hvc_] at ul224_3
                have HL224_3 := qM (show Kd.V (Kd.int .u8) 5 _ w.heap.size _ _ ((rd_T28 t207 x13_2).f3) from Kd.V_mk ul224_3 ge224_3)
                clear hva_ hvn_ hvc_ ge224_3 ul224_3
                have hv224_4 := hcc224 4 _ rfl
                rw [add_field _ _ 4 (by omega)] at hv224_4
                replace hv224_4 := qI (hv224_4.symm.trans hx224_4)
                injection hv224_4 with hva_ hvn_ hvc_
                rw [hva_] at ge224_4
                rw [hvc_] at ul224_4
                have HL224_4 := qM (show Kd.V k28 28 _ w.heap.size _ _ ((rd_T28 t207 x13_2).f4) from Kd.V_mk ul224_4 ge224_4)
                clear hva_ hvn_ hvc_ ge224_4 ul224_4; clear hcc224 hce224
                have HR224_3 := qM hi224_3
                have HC224_3 := qM hl224_3
                clear hi224_3 hl224_3
                have HR224_4 := qM hi224_4
                have HC224_4 := qM hl224_4
                clear hi224_4 hl224_4
                replace p224 := eq_true p224
                replace q224 := eq_true q224
                have ea_ := qI (hx214_3.symm.trans hx224_3)
                injection ea_ with ea_ en_ ec_
                subst ea_
                subst ec_
                clear en_
                have ea_ := qI (hx214_4.symm.trans hx224_4)
                injection ea_ with ea_ en_ ec_
                subst ea_
                subst ec_
                clear en_
                go_wp2
                repeat (go_quiet (fail); try go_wp2)
                go_roundg k2
                case measure => have := HK1.out; have := HK2.out; omega
                case rel => exact ⟨(x7_2), (x10_2.extract ((((rd_T28 t207 x13_2).f3).length : Int) : Int).toNat x10_2.size), (wrap64 (x13_2 + 1)), qS, qS, qS, H', ⟨by have := HK1.out; have := HK2.out; omega⟩, ⟨qR HO_8.out⟩, ⟨qR HO_9.out⟩, ⟨qN HO_12.out⟩, ⟨qR HO_187003.out⟩, ⟨qN HO_187004.out⟩, ⟨qK BK186.out⟩, ⟨by repeat (first | (with_reducible first | exact HB.out | apply below_alloc | apply pw_below_drewN | apply below_drew1 | refine below_set ?_ GE186.out) | exact HB.out)⟩⟩
               ·
                rw [if_neg c70] at H
                have c70b0 : ((x10_2.extract 0 ((((rd_T28 t207 x13_2).f3).length : Int) : Int).toNat).toList == (strOfNums ((rd_T28 t207 x13_2).f3)).toList) = false := beq_eq_false_iff_ne.mpr c70
                have c70b1 : ((x10_2.extract 0 ((((rd_T28 t207 x13_2).f3).length : Int) : Int).toNat).toList != (strOfNums ((rd_T28 t207 x13_2).f3)).toList) = true := bne_iff_ne.mpr c70
                simp only [Int.toNat_natCast] at c70b0 c70b1
                obtain rfl := qI H
                obtain ⟨Ao75, co75, eo75⟩ := Kd.N_slice HO_12.out
                subst eo75
                have p214 : 0 ≤ (x13_2 : Int) := qD
                have q214 : x13_2 < (t207.length : Int) := qD
                obtain ⟨ad214, A214_3, c214_3, A214_4, c214_4, e214, hx214_0, hx214_1, hx214_2, hx214_3, hx214_4, hl214_3, hi214_3, hl214_4, hi214_4⟩ := at_T28 (Kd.N_reads' HO_12.out).2.2 x13_2 p214 q214
                cases e214
                obtain ⟨ce214, hce214, hMe214, hcc214⟩ := Kd.N_get HO_12.out z28 x13_2 p214 (by first | exact q214 | exact qD | (have e_ := (Kd.N_reads' HO_12.out).1; omega))
                obtain ⟨ua214_3, uc214_3, ua214_4, uc214_4, rfl, ul214_3, ge214_3, ul214_4, ge214_4⟩ := k28_openF hMe214
                have hv214_3 := hcc214 3 _ rfl
                rw [add_field _ _ 3 (by omega)] at hv214_3
                replace hv214_3 := qI (hv214_3.symm.trans hx214_3)
                injection hv214_3 with hva_ hvn_ hvc_
                rw [hva_] at ge214_3
                rw [hvc_] at ul214_3
                have HL214_3 := qM (show Kd.V (Kd.int .u8) 5 _ w.heap.size _ _ ((rd_T28 t207 x13_2).f3) from Kd.V_mk ul214_3 ge214_3)
                clear hva_ hvn_ hvc_ ge214_3 ul214_3
                have hv214_4 := hcc214 4 _ rfl
                rw [add_field _ _ 4 (by omega)] at hv214_4
                replace hv214_4 := qI (hv214_4.symm.trans hx214_4)
                injection hv214_4 with hva_ hvn_ hvc_
                rw [hva_] at ge214_4
                rw [hvc_] at ul214_4
                have HL214_4 := qM (show Kd.V k28 28 _ w.heap.size _ _ ((rd_T28 t207 x13_2).f4) from Kd.V_mk ul214_4 ge214_4)
                clear hva_ hvn_ hvc_ ge214_4 ul214_4; clear hcc214 hce214
                have HR214_3 := qM hi214_3
                have HC214_3 := qM hl214_3
                clear hi214_3 hl214_3
                have HR214_4 := qM hi214_4
                have HC214_4 := qM hl214_4
                clear hi214_4 hl214_4
                replace p214 := eq_true p214
                replace q214 := eq_true q214
                have p221 : 0 ≤ (x13_2 : Int) := qD
                have q221 : x13_2 < (t207.length : Int) := qD
                obtain ⟨ad221, A221_3, c221_3, A221_4, c221_4, e221, hx221_0, hx221_1, hx221_2, hx221_3, hx221_4, hl221_3, hi221_3, hl221_4, hi221_4⟩ := at_T28 (Kd.N_reads' HO_12.out).2.2 x13_2 p221 q221
                obtain rfl : ad214 = ad221 := (by injection e221)
                obtain ⟨ce221, hce221, hMe221, hcc221⟩ := Kd.N_get HO_12.out z28 x13_2 p221 (by first | exact q221 | exact qD | (have e_ := (Kd.N_reads' HO_12.out).1; omega))
                obtain ⟨ua221_3, uc221_3, ua221_4, uc221_4, rfl, ul221_3, ge221_3, ul221_4, ge221_4⟩ := k28_openF hMe221
                have hv221_3 := hcc221 3 _ rfl
                rw [add_field _ _ 3 (by omega)] at hv221_3
                replace hv221_3 := qI (hv221_3.symm.trans hx221_3)
                injection hv221_3 with hva_ hvn_ hvc_
                rw [hva_] at ge221_3
                rw [hvc_] at ul221_3
                have HL221_3 := qM (show Kd.V (Kd.int .u8) 5 _ w.heap.size _ _ ((rd_T28 t207 x13_2).f3) from Kd.V_mk ul221_3 ge221_3)
                clear hva_ hvn_ hvc_ ge221_3 ul221_3
                have hv221_4 := hcc221 4 _ rfl
                rw [add_field _ _ 4 (by omega)] at hv221_4
                replace hv221_4 := qI (hv221_4.symm.trans hx221_4)
                injection hv221_4 with hva_ hvn_ hvc_
                rw [hva_] at ge221_4
                rw [hvc_] at ul221_4
                have HL221_4 := qM (show Kd.V k28 28 _ w.heap.size _ _ ((rd_T28 t207 x13_2).f4) from Kd.V_mk ul221_4 ge221_4)
                clear hva_ hvn_ hvc_ ge221_4 ul221_4; clear hcc221 hce221
                have HR221_3 := qM hi221_3
                have HC221_3 := qM hl221_3
                clear hi221_3 hl221_3
                have HR221_4 := qM hi221_4
                have HC221_4 := qM hl221_4
                clear hi221_4 hl221_4
                replace p221 := eq_true p221
                replace q221 := eq_true q221
                have ea_ := qI (hx214_3.symm.trans hx221_3)
                injection ea_ with ea_ en_ ec_
                subst ea_
                subst ec_
                clear en_
                have ea_ := qI (hx214_4.symm.trans hx221_4)
                injection ea_ with ea_ en_ ec_
                subst ea_
                subst ec_
                clear en_
                have p222 : 0 ≤ (x13_2 : Int) := qD
                have q222 : x13_2 < (t207.length : Int) := qD
                obtain ⟨ad222, A222_3, c222_3, A222_4, c222_4, e222, hx222_0, hx222_1, hx222_2, hx222_3, hx222_4, hl222_3, hi222_3, hl222_4, hi222_4⟩ := at_T28 (Kd.N_reads' HO_12.out).2.2 x13_2 p222 q222
                obtain rfl : ad214 = ad222 := (by injection e222)
                obtain ⟨ce222, hce222, hMe222, hcc222⟩ := Kd.N_get HO_12.out z28 x13_2 p222 (by first | exact q222 | exact qD | (have e_ := (Kd.N_reads' HO_12.out).1; omega))
                obtain ⟨ua222_3, uc222_3, ua222_4, uc222_4, rfl, ul222_3, ge222_3, ul222_4, ge222_4⟩ := k28_openF hMe222
                have hv222_3 := hcc222 3 _ rfl
                rw [add_field _ _ 3 (by omega)] at hv222_3
                replace hv222_3 := qI (hv222_3.symm.trans hx222_3)
                injection hv222_3 with hva_ hvn_ hvc_
                rw [hva_] at ge222_3
                rw [hvc_] at ul222_3
                have HL222_3 := qM (show Kd.V (Kd.int .u8) 5 _ w.heap.size _ _ ((rd_T28 t207 x13_2).f3) from Kd.V_mk ul222_3 ge222_3)
                clear hva_ hvn_ hvc_ ge222_3 ul222_3
                have hv222_4 := hcc222 4 _ rfl
                rw [add_field _ _ 4 (by omega)] at hv222_4
                replace hv222_4 := qI (hv222_4.symm.trans hx222_4)
                injection hv222_4 with hva_ hvn_ hvc_
                rw [hva_] at ge222_4
                rw [hvc_] at ul222_4
                have HL222_4 := qM (show Kd.V k28 28 _ w.heap.size _ _ ((rd_T28 t207 x13_2).f4) from Kd.V_mk ul222_4 ge222_4)
                clear hva_ hvn_ hvc_ ge222_4 ul222_4; clear hcc222 hce222
                have HR222_3 := qM hi222_3
                have HC222_3 := qM hl222_3
                clear hi222_3 hl222_3
                have HR222_4 := qM hi222_4
                have HC222_4 := qM hl222_4
                clear hi222_4 hl222_4
                replace p222 := eq_true p222
                replace q222 := eq_true q222
                have ea_ := qI (hx214_3.symm.trans hx222_3)
                injection ea_ with ea_ en_ ec_
                subst ea_
                subst ec_
                clear en_
                have ea_ := qI (hx214_4.symm.trans hx222_4)
                injection ea_ with ea_ en_ ec_
                subst ea_
                subst ec_
                clear en_
                have p223 : 0 ≤ (x13_2 : Int) := qD
                have q223 : x13_2 < (t207.length : Int) := qD
                obtain ⟨ad223, A223_3, c223_3, A223_4, c223_4, e223, hx223_0, hx223_1, hx223_2, hx223_3, hx223_4, hl223_3, hi223_3, hl223_4, hi223_4⟩ := at_T28 (Kd.N_reads' HO_12.out).2.2 x13_2 p223 q223
                obtain rfl : ad214 = ad223 := (by injection e223)
                obtain ⟨ce223, hce223, hMe223, hcc223⟩ := Kd.N_get HO_12.out z28 x13_2 p223 (by first | exact q223 | exact qD | (have e_ := (Kd.N_reads' HO_12.out).1; omega))
                obtain ⟨ua223_3, uc223_3, ua223_4, uc223_4, rfl, ul223_3, ge223_3, ul223_4, ge223_4⟩ := k28_openF hMe223
                have hv223_3 := hcc223 3 _ rfl
                rw [add_field _ _ 3 (by omega)] at hv223_3
                replace hv223_3 := qI (hv223_3.symm.trans hx223_3)
                injection hv223_3 with hva_ hvn_ hvc_
                rw [hva_] at ge223_3
                rw [hvc_] at ul223_3
                have HL223_3 := qM (show Kd.V (Kd.int .u8) 5 _ w.heap.size _ _ ((rd_T28 t207 x13_2).f3) from Kd.V_mk ul223_3 ge223_3)
                clear hva_ hvn_ hvc_ ge223_3 ul223_3
                have hv223_4 := hcc223 4 _ rfl
                rw [add_field _ _ 4 (by omega)] at hv223_4
                replace hv223_4 := qI (hv223_4.symm.trans hx223_4)
                injection hv223_4 with hva_ hvn_ hvc_
                rw [hva_] at ge223_4
                rw [hvc_] at ul223_4
                have HL223_4 := qM (show Kd.V k28 28 _ w.heap.size _ _ ((rd_T28 t207 x13_2).f4) from Kd.V_mk ul223_4 ge223_4)
                clear hva_ hvn_ hvc_ ge223_4 ul223_4; clear hcc223 hce223
                have HR223_3 := qM hi223_3
                have HC223_3 := qM hl223_3
                clear hi223_3 hl223_3
                have HR223_4 := qM hi223_4
                have HC223_4 := qM hl223_4
                clear hi223_4 hl223_4
                replace p223 := eq_true p223
                replace q223 := eq_true q223
                have ea_ := qI (hx214_3.symm.trans hx223_3)
                injection ea_ with ea_ en_ ec_
                subst ea_
                subst ec_
                clear en_
                have ea_ := qI (hx214_4.symm.trans hx223_4)
                injection ea_ with ea_ en_ ec_
                subst ea_
                subst ec_
                clear en_
                have hcv76 := Kd.C_string (P := Tryd.prog) (A := A214_3) (c := c214_3) Tryd.underlying25 Tryd.underlying5 Tryd.underlying9 (by repeat (first | (with_reducible exact HR223_3.out) | (with_reducible refine Kd.C_alloc ?_ _) | (with_reducible refine Kd.C_drewN ?_ _) | (with_reducible refine Kd.C_drew ?_) | exact HR223_3.out))
                have hcq76 := fun a_ => Kd.C_string (P := Tryd.prog) (A := A214_3) (c := c214_3) Tryd.underlying25 Tryd.underlying5 Tryd.underlying9 (Kd.C_drewN HR223_3.out a_)
                go_wp2
                repeat (go_quiet (fail); try go_wp2)
                go_ret
                exact ⟨by first | rfl | (simp [errW_none, errW_some] <;> rfl) | (simp [*, errW_none, errW_some] <;> rfl), by repeat (first | (with_reducible first | exact HB.out | apply below_alloc | apply pw_below_drewN | apply below_drew1 | refine below_set ?_ GE186.out) | exact HB.out)⟩
              ·
               rw [if_neg c69] at H
               exact absurd H (by simp)
             ·
              rw [if_neg c68] at H
              exact absurd H (by simp)
          ·
           rw [if_neg c46] at H
           exact absurd H (by simp)
         ·
          rw [if_neg c45] at H
          have c45b0 : decide (x13_2 < (t207.length : Int)) = false := decide_eq_false c45
          clear c45
          by_cases c77 : x7_2 = (x9_1.length : Int)
          ·
           rw [if_pos c77] at H
           have c77b0 : (x7_2 == (x9_1.length : Int)) = true := beq_iff_eq.mpr c77
           have c77b1 : (x7_2 != (x9_1.length : Int)) = false := bne_eq_false_iff_eq.mpr c77
           clear c77
           by_cases c78 : x10_2.toList = ([] : List UInt8)
           ·
            rw [if_pos c78] at H
            have c78b0 : (x10_2.toList == ([] : List UInt8)) = true := beq_iff_eq.mpr c78
            have c78b1 : (x10_2.toList != ([] : List UInt8)) = false := bne_eq_false_iff_eq.mpr c78
            clear c78
            replace H := Option.bind_eq_some_iff.mp H
            obtain ⟨t210, A790, H⟩ := H
            replace H : ((rookeryref16_Texts.f k2 t210 x8_1).bind fun t213 => (some t213)) = some r := H
            have A79 := qM A790
            clear A790
            replace H := Option.bind_eq_some_iff.mp H
            obtain ⟨t213, A800, H⟩ := H
            replace H : (some t213) = some r := H
            have A80 := qM A800
            clear A800
            obtain rfl := qI H
            obtain ⟨Ao81, co81, eo81⟩ := Kd.N_slice HO_12.out
            subst eo81
            obtain ⟨Ao82, co82, eo82⟩ := Kd.R_slice HO_9.out
            subst eo82
            have hcz83_0 : wr.cell? ⟨gb186, 0, none⟩ = some (.int .i64 t175) := (blk_cell BK186.out 0).trans rfl
            have hcz83_1 : wr.cell? ⟨gb186, 1, none⟩ = some (.string t176) := (blk_cell BK186.out 1).trans rfl
            have hcz83_2 : wr.cell? ⟨gb186, 2, none⟩ = some (.int .i64 t177) := (blk_cell BK186.out 2).trans rfl
            have hcz83_3 : wr.cell? ⟨gb186, 3, none⟩ = some (.slice Ao14 t178.length co14) := (blk_cell BK186.out 3).trans rfl
            have hcz83_4 : wr.cell? ⟨gb186, 4, none⟩ = some (.slice Ao15 t181.length co15) := (blk_cell BK186.out 4).trans rfl
            have hfz83_0 := blk_frozen BK186.out 0
            have hfz83_1 := blk_frozen BK186.out 1
            have hfz83_2 := blk_frozen BK186.out 2
            have hfz83_3 := blk_frozen BK186.out 3
            have hfz83_4 := blk_frozen BK186.out 4
            go_wp2_with (first | (go_at_call 12; (with_reducible refine (gram_Names.calls t175 t176 t177 _ _ t178 _ _ t181 t210 _ ?side1 ?side2 ?side3 ?side4 A79.out).mono ?_); (case side1 => repeat (first | exact (Kd.R_reads' HO_187003.out).2.2 | (with_reducible refine Kd.C_alloc ?_ _) | (with_reducible refine Kd.C_drewN ?_ _) | (with_reducible refine Kd.C_drew ?_))); (case side2 => exact (Kd.R_reads' HO_187003.out).2.1); (case side3 => repeat (first | exact (Kd.N_reads' HO_187004.out).2.2 | (with_reducible refine Kd.C_alloc ?_ _) | (with_reducible refine Kd.C_drewN ?_ _) | (with_reducible refine Kd.C_drew ?_))); (case side4 => exact (Kd.N_reads' HO_187004.out).2.1); rintro e w84 ⟨v211, rfl, ho0, hb⟩; have n0_ := qM (Kd.R_elder' (qR HO_8.out) (Kd.R_base ho0) hb); have n1_ := qM (Kd.R_below (qR HO_9.out) hb); have n2_ := qM (Kd.N_elder' (qN HO_12.out) (Kd.R_base ho0) hb); have n3_ := qM (Kd.R_below (qR HO_187003.out) hb); have n4_ := qM (Kd.N_elder' (qN HO_187004.out) (Kd.R_base ho0) hb); have n5_ := qM (Kd.R_lower (Kd.R_new' ho0 (Kd.R_lt (qR HO_8.out))) (below_size (by repeat (first | (with_reducible first | exact HB.out | apply below_alloc | apply pw_below_drewN | apply below_drew1 | refine below_set ?_ GE186.out) | exact HB.out)))); have n6_ := qM (blk_below (g := gb186) (o := .cells #[.int .i64 t175, .string t176, .int .i64 t177, .slice Ao14 t178.length co14, .slice Ao15 t181.length co15] 28 (0, 0)) (qK BK186.out) hb); have n7_ := qM (below_step (by repeat (first | (with_reducible first | exact HB.out | apply below_alloc | apply pw_below_drewN | apply below_drew1 | refine below_set ?_ GE186.out) | exact HB.out)) hb); clear HO_8; clear HO_9; clear HO_12; clear HO_187003; clear HO_187004; clear BK186; clear HB; have HO_8 := n0_; have HO_9 := n1_; have HO_12 := n2_; have HO_187003 := n3_; have HO_187004 := n4_; have HO212 := n5_; have BK186 := n6_; have HB := n7_; clear n0_ n1_ n2_ n3_ n4_ n5_ n6_ n7_; (try clear hb); (try clear hb2); (try clear hk); (try clear hi); (try clear ho0); obtain ⟨Ao85, co85, eo85⟩ := Kd.R_slice HO212.out; subst eo85; obtain ⟨Ao86, co86, eo86⟩ := Kd.R_slice HO_8.out; subst eo86) | (go_at_call 11; (with_reducible refine (rookeryref16_Texts.calls k2 _ _ t210 _ _ x8_1 t213 _ ?side1 ?side2 ?side3 ?side4 A80.out).mono ?_); (case side1 => repeat (first | exact (Kd.R_reads' HO212.out).2.2 | (with_reducible refine Kd.C_alloc ?_ _) | (with_reducible refine Kd.C_drewN ?_ _) | (with_reducible refine Kd.C_drew ?_))); (case side2 => exact (Kd.R_reads' HO212.out).2.1); (case side3 => repeat (first | exact (Kd.R_reads' HO_8.out).2.2 | (with_reducible refine Kd.C_alloc ?_ _) | (with_reducible refine Kd.C_drewN ?_ _) | (with_reducible refine Kd.C_drew ?_))); (case side4 => exact (Kd.R_reads' HO_8.out).2.1); rintro e w' ⟨rfl, ⟨nd, rfl⟩⟩; (try first | exact ⟨rfl, _, World.drewN_drewN _ _ _⟩ | exact ⟨rfl, _, Eq.trans (World.drewN_drewN _ _ _) (congrArg (World.drewN _) (Nat.add_assoc _ _ _))⟩)))
            repeat (go_quiet (first | (go_at_call 12; (with_reducible refine (gram_Names.calls t175 t176 t177 _ _ t178 _ _ t181 t210 _ ?side1 ?side2 ?side3 ?side4 A79.out).mono ?_); (case side1 => repeat (first | exact (Kd.R_reads' HO_187003.out).2.2 | (with_reducible refine Kd.C_alloc ?_ _) | (with_reducible refine Kd.C_drewN ?_ _) | (with_reducible refine Kd.C_drew ?_))); (case side2 => exact (Kd.R_reads' HO_187003.out).2.1); (case side3 => repeat (first | exact (Kd.N_reads' HO_187004.out).2.2 | (with_reducible refine Kd.C_alloc ?_ _) | (with_reducible refine Kd.C_drewN ?_ _) | (with_reducible refine Kd.C_drew ?_))); (case side4 => exact (Kd.N_reads' HO_187004.out).2.1); rintro e w84 ⟨v211, rfl, ho0, hb⟩; have n0_ := qM (Kd.R_elder' (qR HO_8.out) (Kd.R_base ho0) hb); have n1_ := qM (Kd.R_below (qR HO_9.out) hb); have n2_ := qM (Kd.N_elder' (qN HO_12.out) (Kd.R_base ho0) hb); have n3_ := qM (Kd.R_below (qR HO_187003.out) hb); have n4_ := qM (Kd.N_elder' (qN HO_187004.out) (Kd.R_base ho0) hb); have n5_ := qM (Kd.R_lower (Kd.R_new' ho0 (Kd.R_lt (qR HO_8.out))) (below_size (by repeat (first | (with_reducible first | exact HB.out | apply below_alloc | apply pw_below_drewN | apply below_drew1 | refine below_set ?_ GE186.out) | exact HB.out)))); have n6_ := qM (blk_below (g := gb186) (o := .cells #[.int .i64 t175, .string t176, .int .i64 t177, .slice Ao14 t178.length co14, .slice Ao15 t181.length co15] 28 (0, 0)) (qK BK186.out) hb); have n7_ := qM (below_step (by repeat (first | (with_reducible first | exact HB.out | apply below_alloc | apply pw_below_drewN | apply below_drew1 | refine below_set ?_ GE186.out) | exact HB.out)) hb); clear HO_8; clear HO_9; clear HO_12; clear HO_187003; clear HO_187004; clear BK186; clear HB; have HO_8 := n0_; have HO_9 := n1_; have HO_12 := n2_; have HO_187003 := n3_; have HO_187004 := n4_; have HO212 := n5_; have BK186 := n6_; have HB := n7_; clear n0_ n1_ n2_ n3_ n4_ n5_ n6_ n7_; (try clear hb); (try clear hb2); (try clear hk); (try clear hi); (try clear ho0); obtain ⟨Ao85, co85, eo85⟩ := Kd.R_slice HO212.out; subst eo85; obtain ⟨Ao86, co86, eo86⟩ := Kd.R_slice HO_8.out; subst eo86) | (go_at_call 11; (with_reducible refine (rookeryref16_Texts.calls k2 _ _ t210 _ _ x8_1 t213 _ ?side1 ?side2 ?side3 ?side4 A80.out).mono ?_); (case side1 => repeat (first | exact (Kd.R_reads' HO212.out).2.2 | (with_reducible refine Kd.C_alloc ?_ _) | (with_reducible refine Kd.C_drewN ?_ _) | (with_reducible refine Kd.C_drew ?_))); (case side2 => exact (Kd.R_reads' HO212.out).2.1); (case side3 => repeat (first | exact (Kd.R_reads' HO_8.out).2.2 | (with_reducible refine Kd.C_alloc ?_ _) | (with_reducible refine Kd.C_drewN ?_ _) | (with_reducible refine Kd.C_drew ?_))); (case side4 => exact (Kd.R_reads' HO_8.out).2.1); rintro e w' ⟨rfl, ⟨nd, rfl⟩⟩; (try first | exact ⟨rfl, _, World.drewN_drewN _ _ _⟩ | exact ⟨rfl, _, Eq.trans (World.drewN_drewN _ _ _) (congrArg (World.drewN _) (Nat.add_assoc _ _ _))⟩))); try go_wp2_with (first | (go_at_call 12; (with_reducible refine (gram_Names.calls t175 t176 t177 _ _ t178 _ _ t181 t210 _ ?side1 ?side2 ?side3 ?side4 A79.out).mono ?_); (case side1 => repeat (first | exact (Kd.R_reads' HO_187003.out).2.2 | (with_reducible refine Kd.C_alloc ?_ _) | (with_reducible refine Kd.C_drewN ?_ _) | (with_reducible refine Kd.C_drew ?_))); (case side2 => exact (Kd.R_reads' HO_187003.out).2.1); (case side3 => repeat (first | exact (Kd.N_reads' HO_187004.out).2.2 | (with_reducible refine Kd.C_alloc ?_ _) | (with_reducible refine Kd.C_drewN ?_ _) | (with_reducible refine Kd.C_drew ?_))); (case side4 => exact (Kd.N_reads' HO_187004.out).2.1); rintro e w84 ⟨v211, rfl, ho0, hb⟩; have n0_ := qM (Kd.R_elder' (qR HO_8.out) (Kd.R_base ho0) hb); have n1_ := qM (Kd.R_below (qR HO_9.out) hb); have n2_ := qM (Kd.N_elder' (qN HO_12.out) (Kd.R_base ho0) hb); have n3_ := qM (Kd.R_below (qR HO_187003.out) hb); have n4_ := qM (Kd.N_elder' (qN HO_187004.out) (Kd.R_base ho0) hb); have n5_ := qM (Kd.R_lower (Kd.R_new' ho0 (Kd.R_lt (qR HO_8.out))) (below_size (by repeat (first | (with_reducible first | exact HB.out | apply below_alloc | apply pw_below_drewN | apply below_drew1 | refine below_set ?_ GE186.out) | exact HB.out)))); have n6_ := qM (blk_below (g := gb186) (o := .cells #[.int .i64 t175, .string t176, .int .i64 t177, .slice Ao14 t178.length co14, .slice Ao15 t181.length co15] 28 (0, 0)) (qK BK186.out) hb); have n7_ := qM (below_step (by repeat (first | (with_reducible first | exact HB.out | apply below_alloc | apply pw_below_drewN | apply below_drew1 | refine below_set ?_ GE186.out) | exact HB.out)) hb); clear HO_8; clear HO_9; clear HO_12; clear HO_187003; clear HO_187004; clear BK186; clear HB; have HO_8 := n0_; have HO_9 := n1_; have HO_12 := n2_; have HO_187003 := n3_; have HO_187004 := n4_; have HO212 := n5_; have BK186 := n6_; have HB := n7_; clear n0_ n1_ n2_ n3_ n4_ n5_ n6_ n7_; (try clear hb); (try clear hb2); (try clear hk); (try clear hi); (try clear ho0); obtain ⟨Ao85, co85, eo85⟩ := Kd.R_slice HO212.out; subst eo85; obtain ⟨Ao86, co86, eo86⟩ := Kd.R_slice HO_8.out; subst eo86) | (go_at_call 11; (with_reducible refine (rookeryref16_Texts.calls k2 _ _ t210 _ _ x8_1 t213 _ ?side1 ?side2 ?side3 ?side4 A80.out).mono ?_); (case side1 => repeat (first | exact (Kd.R_reads' HO212.out).2.2 | (with_reducible refine Kd.C_alloc ?_ _) | (with_reducible refine Kd.C_drewN ?_ _) | (with_reducible refine Kd.C_drew ?_))); (case side2 => exact (Kd.R_reads' HO212.out).2.1); (case side3 => repeat (first | exact (Kd.R_reads' HO_8.out).2.2 | (with_reducible refine Kd.C_alloc ?_ _) | (with_reducible refine Kd.C_drewN ?_ _) | (with_reducible refine Kd.C_drew ?_))); (case side4 => exact (Kd.R_reads' HO_8.out).2.1); rintro e w' ⟨rfl, ⟨nd, rfl⟩⟩; (try first | exact ⟨rfl, _, World.drewN_drewN _ _ _⟩ | exact ⟨rfl, _, Eq.trans (World.drewN_drewN _ _ _) (congrArg (World.drewN _) (Nat.add_assoc _ _ _))⟩))))
            go_ret
            exact ⟨by first | rfl | (simp [errW_none, errW_some] <;> rfl) | (simp [*, errW_none, errW_some] <;> rfl), by repeat (first | (with_reducible first | exact HB.out | apply below_alloc | apply pw_below_drewN | apply below_drew1 | refine below_set ?_ GE186.out) | exact HB.out)⟩
           ·
            rw [if_neg c78] at H
            have c78b0 : (x10_2.toList == ([] : List UInt8)) = false := beq_eq_false_iff_ne.mpr c78
            have c78b1 : (x10_2.toList != ([] : List UInt8)) = true := bne_iff_ne.mpr c78
            obtain rfl := qI H
            obtain ⟨Ao87, co87, eo87⟩ := Kd.N_slice HO_12.out
            subst eo87
            obtain ⟨Ao88, co88, eo88⟩ := Kd.R_slice HO_9.out
            subst eo88
            go_wp2
            repeat (go_quiet (fail); try go_wp2)
            go_ret
            exact ⟨by first | rfl | (simp [errW_none, errW_some] <;> rfl) | (simp [*, errW_none, errW_some] <;> rfl), by repeat (first | (with_reducible first | exact HB.out | apply below_alloc | apply pw_below_drewN | apply below_drew1 | refine below_set ?_ GE186.out) | exact HB.out)⟩
          ·
           rw [if_neg c77] at H
           have c77b0 : (x7_2 == (x9_1.length : Int)) = false := beq_eq_false_iff_ne.mpr c77
           have c77b1 : (x7_2 != (x9_1.length : Int)) = true := bne_iff_ne.mpr c77
           obtain rfl := qI H
           obtain ⟨Ao89, co89, eo89⟩ := Kd.N_slice HO_12.out
           subst eo89
           obtain ⟨Ao90, co90, eo90⟩ := Kd.R_slice HO_9.out
           subst eo90
           go_wp2
           repeat (go_quiet (fail); try go_wp2)
           go_ret
           exact ⟨by first | rfl | (simp [errW_none, errW_some] <;> rfl) | (simp [*, errW_none, errW_some] <;> rfl), by repeat (first | (with_reducible first | exact HB.out | apply below_alloc | apply pw_below_drewN | apply below_drew1 | refine below_set ?_ GE186.out) | exact HB.out)⟩
   ·
    rw [if_neg c7] at H
    have c7b0 : (t185 == 0) = false := beq_eq_false_iff_ne.mpr c7
    have c7b1 : (t185 != 0) = true := bne_iff_ne.mpr c7
    by_cases c91 : t184 ≥ 0
    ·
     rw [if_pos c91] at H
     have c91b0 : decide (0 ≤ t184) = true := decide_eq_true c91
     clear c91
     by_cases c92 : t184 ≤ (t170.length : Int)
     ·
      rw [if_pos c92] at H
      have c92b0 : decide (t184 ≤ (t170.length : Int)) = true := decide_eq_true c92
      clear c92
      obtain rfl := qI H
      go_enter Tryd.func6, Tryd.ntmps6
      go_wp2_with (first | (go_at_call 7; (with_reducible refine (rookerylaw16_alive.calls  true _ ?side1 A2.out).mono ?_); (case side1 => first | exact hG | exact hG.drewN _ | exact hG.drew | exact hG.below (qB HB.out) | (refine hG.below ?_; (repeat (first | (with_reducible exact Below.refl _ _) | (with_reducible refine pw_below_drewN ?_ _) | (with_reducible refine below_drew ?_) | (with_reducible refine below_alloc ?_ _))))); rintro e w93 ⟨rfl, hb⟩; have n0_ := qM (below_step (qB HB.out) hb); clear HB; have HB := n0_; clear n0_; (try clear hb); (try clear hb2); (try clear hk); (try clear hi)) | (go_at_call 14; (with_reducible refine (lex_Scan.calls k a0 t170 t171 t172 _ ?side1 A4.out).mono ?_); (case side1 => first | exact hG | exact hG.drewN _ | exact hG.drew | exact hG.below (qB HB.out) | (refine hG.below ?_; (repeat (first | (with_reducible exact Below.refl _ _) | (with_reducible refine pw_below_drewN ?_ _) | (with_reducible refine below_drew ?_) | (with_reducible refine below_alloc ?_ _))))); rintro e w94 ⟨v173, rfl, ho0, hb⟩; have n0_ := qM (Kd.N_lower (Kd.N_mono (ok' := fun k_ => True) (Kd.S_N (Kd.S_bound ho0)) (fun k_ hk_ => trivial)) (below_size (qB HB.out))); have n1_ := qM (below_step (qB HB.out) hb); clear HB; have HO174 := n0_; have HB := n1_; clear n0_ n1_; (try clear hb); (try clear hb2); (try clear hk); (try clear hi); (try clear ho0); obtain ⟨Ao95, co95, eo95⟩ := Kd.N_slice HO174.out; subst eo95) | (go_at_call 15; (with_reducible refine (gram_Parse.calls _ _ t170 t175 t176 t177 t178 t181 t184 t185 _ ?side1 ?side2 A6.out).mono ?_); (case side1 => repeat (first | exact (Kd.N_reads' HO174.out).2.2 | (with_reducible refine Kd.C_alloc ?_ _) | (with_reducible refine Kd.C_drewN ?_ _) | (with_reducible refine Kd.C_drew ?_))); (case side2 => exact (Kd.N_reads' HO174.out).2.1); rintro e w96 ⟨v179, v182, rfl, ho0, ho1, hb⟩; have n0_ := qM (Kd.N_mono (Kd.N_told (Kd.N_told (Kd.N_old (qN HO174.out) hb) (Kd.R_base ho0)) (Kd.R_base ho1)) (fun _ h_ => h_.1)); have n1_ := qM (Kd.R_lower ho0 (below_size (qB HB.out))); have n2_ := qM (Kd.N_lower (Kd.N_mono (ok' := fun k_ => some k_ ≠ (v179 : Value).ownBlock ∧ some k_ ≠ (.slice Ao95 t170.length co95 : Value).ownBlock) (Kd.R_N (Kd.R_bound ho1)) (fun k_ hk_ => ⟨hk_.1, (Kd.fresh' (Kd.N_lt (qN HO174.out)) k_ hk_.2.1)⟩)) (below_size (qB HB.out))); have n3_ := qM (below_step (qB HB.out) hb); clear HO174; clear HB; have HO174 := n0_; have HO180 := n1_; have HO183 := n2_; have HB := n3_; clear n0_ n1_ n2_ n3_; (try clear hb); (try clear hb2); (try clear hk); (try clear hi); (try clear ho0); (try clear ho1)) | ((with_reducible refine gate_dst (N := 6) rfl ?_); (try (refine gate_guard (by rfl) ?_; dsimp only)); refine box_event ?hg (N := 6) ?hd (cs := #[.int .i64 0, .string (⟨#[]⟩ : ByteArray), .int .i64 0, .slice none 0 0, .slice none 0 0]) (t := 28) ?hr ?_; (case hd => rfl); (case hg => rfl); (case hr => first | (go_simp; done) | (go_simp; rfl)); intro gb186 hg w97 hbox hb; have n0_ := qM (Kd.N_below (Kd.N_elderB (qN HO174.out) gb186 (Nat.le_of_eq hg.symm)) hb); have n1_ := qM (Kd.R_below (qR HO180.out) hb); have n2_ := qM (Kd.N_below (Kd.N_elderB (qN HO183.out) gb186 (Nat.le_of_eq hg.symm)) hb); have n3_ := qM (below_step (qB HB.out) hb); have n4_ := qM (hbox); have n5_ := qM ((by rw [hg]; exact (below_size (qB HB.out)) : w.heap.size ≤ gb186)); have n6_ := qM ((by rw [hg]; exact (below_size (qB HB.out)) : w.heap.size ≤ gb186)); clear HO174; clear HO180; clear HO183; clear HB; have HO174 := n0_; have HO180 := n1_; have HO183 := n2_; have HB := n3_; have BK186 := n4_; have GW186 := n5_; have GE186 := n6_; clear n0_ n1_ n2_ n3_ n4_ n5_ n6_; clear hb hbox hg; have hcz98_0 : w97.cell? ⟨gb186, 0, none⟩ = some (.int .i64 0) := (blk_cell BK186.out 0).trans rfl; have hcz98_1 : w97.cell? ⟨gb186, 1, none⟩ = some (.string (⟨#[]⟩ : ByteArray)) := (blk_cell BK186.out 1).trans rfl; have hcz98_2 : w97.cell? ⟨gb186, 2, none⟩ = some (.int .i64 0) := (blk_cell BK186.out 2).trans rfl; have hcz98_3 : w97.cell? ⟨gb186, 3, none⟩ = some (.slice none 0 0) := (blk_cell BK186.out 3).trans rfl; have hcz98_4 : w97.cell? ⟨gb186, 4, none⟩ = some (.slice none 0 0) := (blk_cell BK186.out 4).trans rfl; have hfz98_0 := blk_frozen BK186.out 0; have hfz98_1 := blk_frozen BK186.out 1; have hfz98_2 := blk_frozen BK186.out 2; have hfz98_3 := blk_frozen BK186.out 3; have hfz98_4 := blk_frozen BK186.out 4; obtain ⟨Ao99, co99, eo99⟩ := Kd.R_slice HO180.out; subst eo99; obtain ⟨Ao100, co100, eo100⟩ := Kd.N_slice HO183.out; subst eo100))
      repeat (go_quiet (first | (go_at_call 7; (with_reducible refine (rookerylaw16_alive.calls  true _ ?side1 A2.out).mono ?_); (case side1 => first | exact hG | exact hG.drewN _ | exact hG.drew | exact hG.below (qB HB.out) | (refine hG.below ?_; (repeat (first | (with_reducible exact Below.refl _ _) | (with_reducible refine pw_below_drewN ?_ _) | (with_reducible refine below_drew ?_) | (with_reducible refine below_alloc ?_ _))))); rintro e w93 ⟨rfl, hb⟩; have n0_ := qM (below_step (qB HB.out) hb); clear HB; have HB := n0_; clear n0_; (try clear hb); (try clear hb2); (try clear hk); (try clear hi)) | (go_at_call 14; (with_reducible refine (lex_Scan.calls k a0 t170 t171 t172 _ ?side1 A4.out).mono ?_); (case side1 => first | exact hG | exact hG.drewN _ | exact hG.drew | exact hG.below (qB HB.out) | (refine hG.below ?_; (repeat (first | (with_reducible exact Below.refl _ _) | (with_reducible refine pw_below_drewN ?_ _) | (with_reducible refine below_drew ?_) | (with_reducible refine below_alloc ?_ _))))); rintro e w94 ⟨v173, rfl, ho0, hb⟩; have n0_ := qM (Kd.N_lower (Kd.N_mono (ok' := fun k_ => True) (Kd.S_N (Kd.S_bound ho0)) (fun k_ hk_ => trivial)) (below_size (qB HB.out))); have n1_ := qM (below_step (qB HB.out) hb); clear HB; have HO174 := n0_; have HB := n1_; clear n0_ n1_; (try clear hb); (try clear hb2); (try clear hk); (try clear hi); (try clear ho0); obtain ⟨Ao95, co95, eo95⟩ := Kd.N_slice HO174.out; subst eo95) | (go_at_call 15; (with_reducible refine (gram_Parse.calls _ _ t170 t175 t176 t177 t178 t181 t184 t185 _ ?side1 ?side2 A6.out).mono ?_); (case side1 => repeat (first | exact (Kd.N_reads' HO174.out).2.2 | (with_reducible refine Kd.C_alloc ?_ _) | (with_reducible refine Kd.C_drewN ?_ _) | (with_reducible refine Kd.C_drew ?_))); (case side2 => exact (Kd.N_reads' HO174.out).2.1); rintro e w96 ⟨v179, v182, rfl, ho0, ho1, hb⟩; have n0_ := qM (Kd.N_mono (Kd.N_told (Kd.N_told (Kd.N_old (qN HO174.out) hb) (Kd.R_base ho0)) (Kd.R_base ho1)) (fun _ h_ => h_.1)); have n1_ := qM (Kd.R_lower ho0 (below_size (qB HB.out))); have n2_ := qM (Kd.N_lower (Kd.N_mono (ok' := fun k_ => some k_ ≠ (v179 : Value).ownBlock ∧ some k_ ≠ (.slice Ao95 t170.length co95 : Value).ownBlock) (Kd.R_N (Kd.R_bound ho1)) (fun k_ hk_ => ⟨hk_.1, (Kd.fresh' (Kd.N_lt (qN HO174.out)) k_ hk_.2.1)⟩)) (below_size (qB HB.out))); have n3_ := qM (below_step (qB HB.out) hb); clear HO174; clear HB; have HO174 := n0_; have HO180 := n1_; have HO183 := n2_; have HB := n3_; clear n0_ n1_ n2_ n3_; (try clear hb); (try clear hb2); (try clear hk); (try clear hi); (try clear ho0); (try clear ho1)) | ((with_reducible refine gate_dst (N := 6) rfl ?_); (try (refine gate_guard (by rfl) ?_; dsimp only)); refine box_event ?hg (N := 6) ?hd (cs := #[.int .i64 0, .string (⟨#[]⟩ : ByteArray), .int .i64 0, .slice none 0 0, .slice none 0 0]) (t := 28) ?hr ?_; (case hd => rfl); (case hg => rfl); (case hr => first | (go_simp; done) | (go_simp; rfl)); intro gb186 hg w97 hbox hb; have n0_ := qM (Kd.N_below (Kd.N_elderB (qN HO174.out) gb186 (Nat.le_of_eq hg.symm)) hb); have n1_ := qM (Kd.R_below (qR HO180.out) hb); have n2_ := qM (Kd.N_below (Kd.N_elderB (qN HO183.out) gb186 (Nat.le_of_eq hg.symm)) hb); have n3_ := qM (below_step (qB HB.out) hb); have n4_ := qM (hbox); have n5_ := qM ((by rw [hg]; exact (below_size (qB HB.out)) : w.heap.size ≤ gb186)); have n6_ := qM ((by rw [hg]; exact (below_size (qB HB.out)) : w.heap.size ≤ gb186)); clear HO174; clear HO180; clear HO183; clear HB; have HO174 := n0_; have HO180 := n1_; have HO183 := n2_; have HB := n3_; have BK186 := n4_; have GW186 := n5_; have GE186 := n6_; clear n0_ n1_ n2_ n3_ n4_ n5_ n6_; clear hb hbox hg; have hcz98_0 : w97.cell? ⟨gb186, 0, none⟩ = some (.int .i64 0) := (blk_cell BK186.out 0).trans rfl; have hcz98_1 : w97.cell? ⟨gb186, 1, none⟩ = some (.string (⟨#[]⟩ : ByteArray)) := (blk_cell BK186.out 1).trans rfl; have hcz98_2 : w97.cell? ⟨gb186, 2, none⟩ = some (.int .i64 0) := (blk_cell BK186.out 2).trans rfl; have hcz98_3 : w97.cell? ⟨gb186, 3, none⟩ = some (.slice none 0 0) := (blk_cell BK186.out 3).trans rfl; have hcz98_4 : w97.cell? ⟨gb186, 4, none⟩ = some (.slice none 0 0) := (blk_cell BK186.out 4).trans rfl; have hfz98_0 := blk_frozen BK186.out 0; have hfz98_1 := blk_frozen BK186.out 1; have hfz98_2 := blk_frozen BK186.out 2; have hfz98_3 := blk_frozen BK186.out 3; have hfz98_4 := blk_frozen BK186.out 4; obtain ⟨Ao99, co99, eo99⟩ := Kd.R_slice HO180.out; subst eo99; obtain ⟨Ao100, co100, eo100⟩ := Kd.N_slice HO183.out; subst eo100)); try go_wp2_with (first | (go_at_call 7; (with_reducible refine (rookerylaw16_alive.calls  true _ ?side1 A2.out).mono ?_); (case side1 => first | exact hG | exact hG.drewN _ | exact hG.drew | exact hG.below (qB HB.out) | (refine hG.below ?_; (repeat (first | (with_reducible exact Below.refl _ _) | (with_reducible refine pw_below_drewN ?_ _) | (with_reducible refine below_drew ?_) | (with_reducible refine below_alloc ?_ _))))); rintro e w93 ⟨rfl, hb⟩; have n0_ := qM (below_step (qB HB.out) hb); clear HB; have HB := n0_; clear n0_; (try clear hb); (try clear hb2); (try clear hk); (try clear hi)) | (go_at_call 14; (with_reducible refine (lex_Scan.calls k a0 t170 t171 t172 _ ?side1 A4.out).mono ?_); (case side1 => first | exact hG | exact hG.drewN _ | exact hG.drew | exact hG.below (qB HB.out) | (refine hG.below ?_; (repeat (first | (with_reducible exact Below.refl _ _) | (with_reducible refine pw_below_drewN ?_ _) | (with_reducible refine below_drew ?_) | (with_reducible refine below_alloc ?_ _))))); rintro e w94 ⟨v173, rfl, ho0, hb⟩; have n0_ := qM (Kd.N_lower (Kd.N_mono (ok' := fun k_ => True) (Kd.S_N (Kd.S_bound ho0)) (fun k_ hk_ => trivial)) (below_size (qB HB.out))); have n1_ := qM (below_step (qB HB.out) hb); clear HB; have HO174 := n0_; have HB := n1_; clear n0_ n1_; (try clear hb); (try clear hb2); (try clear hk); (try clear hi); (try clear ho0); obtain ⟨Ao95, co95, eo95⟩ := Kd.N_slice HO174.out; subst eo95) | (go_at_call 15; (with_reducible refine (gram_Parse.calls _ _ t170 t175 t176 t177 t178 t181 t184 t185 _ ?side1 ?side2 A6.out).mono ?_); (case side1 => repeat (first | exact (Kd.N_reads' HO174.out).2.2 | (with_reducible refine Kd.C_alloc ?_ _) | (with_reducible refine Kd.C_drewN ?_ _) | (with_reducible refine Kd.C_drew ?_))); (case side2 => exact (Kd.N_reads' HO174.out).2.1); rintro e w96 ⟨v179, v182, rfl, ho0, ho1, hb⟩; have n0_ := qM (Kd.N_mono (Kd.N_told (Kd.N_told (Kd.N_old (qN HO174.out) hb) (Kd.R_base ho0)) (Kd.R_base ho1)) (fun _ h_ => h_.1)); have n1_ := qM (Kd.R_lower ho0 (below_size (qB HB.out))); have n2_ := qM (Kd.N_lower (Kd.N_mono (ok' := fun k_ => some k_ ≠ (v179 : Value).ownBlock ∧ some k_ ≠ (.slice Ao95 t170.length co95 : Value).ownBlock) (Kd.R_N (Kd.R_bound ho1)) (fun k_ hk_ => ⟨hk_.1, (Kd.fresh' (Kd.N_lt (qN HO174.out)) k_ hk_.2.1)⟩)) (below_size (qB HB.out))); have n3_ := qM (below_step (qB HB.out) hb); clear HO174; clear HB; have HO174 := n0_; have HO180 := n1_; have HO183 := n2_; have HB := n3_; clear n0_ n1_ n2_ n3_; (try clear hb); (try clear hb2); (try clear hk); (try clear hi); (try clear ho0); (try clear ho1)) | ((with_reducible refine gate_dst (N := 6) rfl ?_); (try (refine gate_guard (by rfl) ?_; dsimp only)); refine box_event ?hg (N := 6) ?hd (cs := #[.int .i64 0, .string (⟨#[]⟩ : ByteArray), .int .i64 0, .slice none 0 0, .slice none 0 0]) (t := 28) ?hr ?_; (case hd => rfl); (case hg => rfl); (case hr => first | (go_simp; done) | (go_simp; rfl)); intro gb186 hg w97 hbox hb; have n0_ := qM (Kd.N_below (Kd.N_elderB (qN HO174.out) gb186 (Nat.le_of_eq hg.symm)) hb); have n1_ := qM (Kd.R_below (qR HO180.out) hb); have n2_ := qM (Kd.N_below (Kd.N_elderB (qN HO183.out) gb186 (Nat.le_of_eq hg.symm)) hb); have n3_ := qM (below_step (qB HB.out) hb); have n4_ := qM (hbox); have n5_ := qM ((by rw [hg]; exact (below_size (qB HB.out)) : w.heap.size ≤ gb186)); have n6_ := qM ((by rw [hg]; exact (below_size (qB HB.out)) : w.heap.size ≤ gb186)); clear HO174; clear HO180; clear HO183; clear HB; have HO174 := n0_; have HO180 := n1_; have HO183 := n2_; have HB := n3_; have BK186 := n4_; have GW186 := n5_; have GE186 := n6_; clear n0_ n1_ n2_ n3_ n4_ n5_ n6_; clear hb hbox hg; have hcz98_0 : w97.cell? ⟨gb186, 0, none⟩ = some (.int .i64 0) := (blk_cell BK186.out 0).trans rfl; have hcz98_1 : w97.cell? ⟨gb186, 1, none⟩ = some (.string (⟨#[]⟩ : ByteArray)) := (blk_cell BK186.out 1).trans rfl; have hcz98_2 : w97.cell? ⟨gb186, 2, none⟩ = some (.int .i64 0) := (blk_cell BK186.out 2).trans rfl; have hcz98_3 : w97.cell? ⟨gb186, 3, none⟩ = some (.slice none 0 0) := (blk_cell BK186.out 3).trans rfl; have hcz98_4 : w97.cell? ⟨gb186, 4, none⟩ = some (.slice none 0 0) := (blk_cell BK186.out 4).trans rfl; have hfz98_0 := blk_frozen BK186.out 0; have hfz98_1 := blk_frozen BK186.out 1; have hfz98_2 := blk_frozen BK186.out 2; have hfz98_3 := blk_frozen BK186.out 3; have hfz98_4 := blk_frozen BK186.out 4; obtain ⟨Ao99, co99, eo99⟩ := Kd.R_slice HO180.out; subst eo99; obtain ⟨Ao100, co100, eo100⟩ := Kd.N_slice HO183.out; subst eo100)))
      go_ret
      exact ⟨by first | rfl | (simp [errW_none, errW_some] <;> rfl) | (simp [*, errW_none, errW_some] <;> rfl), by repeat (first | (with_reducible first | exact HB.out | apply below_alloc | apply pw_below_drewN | apply below_drew1 | refine below_set ?_ GE186.out) | exact HB.out)⟩
     ·
      rw [if_neg c92] at H
      have c92b0 : decide (t184 ≤ (t170.length : Int)) = false := decide_eq_false c92
      clear c92
      obtain rfl := qI H
      go_enter Tryd.func6, Tryd.ntmps6
      go_wp2_with (first | (go_at_call 7; (with_reducible refine (rookerylaw16_alive.calls  true _ ?side1 A2.out).mono ?_); (case side1 => first | exact hG | exact hG.drewN _ | exact hG.drew | exact hG.below (qB HB.out) | (refine hG.below ?_; (repeat (first | (with_reducible exact Below.refl _ _) | (with_reducible refine pw_below_drewN ?_ _) | (with_reducible refine below_drew ?_) | (with_reducible refine below_alloc ?_ _))))); rintro e w101 ⟨rfl, hb⟩; have n0_ := qM (below_step (qB HB.out) hb); clear HB; have HB := n0_; clear n0_; (try clear hb); (try clear hb2); (try clear hk); (try clear hi)) | (go_at_call 14; (with_reducible refine (lex_Scan.calls k a0 t170 t171 t172 _ ?side1 A4.out).mono ?_); (case side1 => first | exact hG | exact hG.drewN _ | exact hG.drew | exact hG.below (qB HB.out) | (refine hG.below ?_; (repeat (first | (with_reducible exact Below.refl _ _) | (with_reducible refine pw_below_drewN ?_ _) | (with_reducible refine below_drew ?_) | (with_reducible refine below_alloc ?_ _))))); rintro e w102 ⟨v173, rfl, ho0, hb⟩; have n0_ := qM (Kd.N_lower (Kd.N_mono (ok' := fun k_ => True) (Kd.S_N (Kd.S_bound ho0)) (fun k_ hk_ => trivial)) (below_size (qB HB.out))); have n1_ := qM (below_step (qB HB.out) hb); clear HB; have HO174 := n0_; have HB := n1_; clear n0_ n1_; (try clear hb); (try clear hb2); (try clear hk); (try clear hi); (try clear ho0); obtain ⟨Ao103, co103, eo103⟩ := Kd.N_slice HO174.out; subst eo103) | (go_at_call 15; (with_reducible refine (gram_Parse.calls _ _ t170 t175 t176 t177 t178 t181 t184 t185 _ ?side1 ?side2 A6.out).mono ?_); (case side1 => repeat (first | exact (Kd.N_reads' HO174.out).2.2 | (with_reducible refine Kd.C_alloc ?_ _) | (with_reducible refine Kd.C_drewN ?_ _) | (with_reducible refine Kd.C_drew ?_))); (case side2 => exact (Kd.N_reads' HO174.out).2.1); rintro e w104 ⟨v179, v182, rfl, ho0, ho1, hb⟩; have n0_ := qM (Kd.N_mono (Kd.N_told (Kd.N_told (Kd.N_old (qN HO174.out) hb) (Kd.R_base ho0)) (Kd.R_base ho1)) (fun _ h_ => h_.1)); have n1_ := qM (Kd.R_lower ho0 (below_size (qB HB.out))); have n2_ := qM (Kd.N_lower (Kd.N_mono (ok' := fun k_ => some k_ ≠ (v179 : Value).ownBlock ∧ some k_ ≠ (.slice Ao103 t170.length co103 : Value).ownBlock) (Kd.R_N (Kd.R_bound ho1)) (fun k_ hk_ => ⟨hk_.1, (Kd.fresh' (Kd.N_lt (qN HO174.out)) k_ hk_.2.1)⟩)) (below_size (qB HB.out))); have n3_ := qM (below_step (qB HB.out) hb); clear HO174; clear HB; have HO174 := n0_; have HO180 := n1_; have HO183 := n2_; have HB := n3_; clear n0_ n1_ n2_ n3_; (try clear hb); (try clear hb2); (try clear hk); (try clear hi); (try clear ho0); (try clear ho1)) | ((with_reducible refine gate_dst (N := 6) rfl ?_); (try (refine gate_guard (by rfl) ?_; dsimp only)); refine box_event ?hg (N := 6) ?hd (cs := #[.int .i64 0, .string (⟨#[]⟩ : ByteArray), .int .i64 0, .slice none 0 0, .slice none 0 0]) (t := 28) ?hr ?_; (case hd => rfl); (case hg => rfl); (case hr => first | (go_simp; done) | (go_simp; rfl)); intro gb186 hg w105 hbox hb; have n0_ := qM (Kd.N_below (Kd.N_elderB (qN HO174.out) gb186 (Nat.le_of_eq hg.symm)) hb); have n1_ := qM (Kd.R_below (qR HO180.out) hb); have n2_ := qM (Kd.N_below (Kd.N_elderB (qN HO183.out) gb186 (Nat.le_of_eq hg.symm)) hb); have n3_ := qM (below_step (qB HB.out) hb); have n4_ := qM (hbox); have n5_ := qM ((by rw [hg]; exact (below_size (qB HB.out)) : w.heap.size ≤ gb186)); have n6_ := qM ((by rw [hg]; exact (below_size (qB HB.out)) : w.heap.size ≤ gb186)); clear HO174; clear HO180; clear HO183; clear HB; have HO174 := n0_; have HO180 := n1_; have HO183 := n2_; have HB := n3_; have BK186 := n4_; have GW186 := n5_; have GE186 := n6_; clear n0_ n1_ n2_ n3_ n4_ n5_ n6_; clear hb hbox hg; have hcz106_0 : w105.cell? ⟨gb186, 0, none⟩ = some (.int .i64 0) := (blk_cell BK186.out 0).trans rfl; have hcz106_1 : w105.cell? ⟨gb186, 1, none⟩ = some (.string (⟨#[]⟩ : ByteArray)) := (blk_cell BK186.out 1).trans rfl; have hcz106_2 : w105.cell? ⟨gb186, 2, none⟩ = some (.int .i64 0) := (blk_cell BK186.out 2).trans rfl; have hcz106_3 : w105.cell? ⟨gb186, 3, none⟩ = some (.slice none 0 0) := (blk_cell BK186.out 3).trans rfl; have hcz106_4 : w105.cell? ⟨gb186, 4, none⟩ = some (.slice none 0 0) := (blk_cell BK186.out 4).trans rfl; have hfz106_0 := blk_frozen BK186.out 0; have hfz106_1 := blk_frozen BK186.out 1; have hfz106_2 := blk_frozen BK186.out 2; have hfz106_3 := blk_frozen BK186.out 3; have hfz106_4 := blk_frozen BK186.out 4; obtain ⟨Ao107, co107, eo107⟩ := Kd.R_slice HO180.out; subst eo107; obtain ⟨Ao108, co108, eo108⟩ := Kd.N_slice HO183.out; subst eo108))
      repeat (go_quiet (first | (go_at_call 7; (with_reducible refine (rookerylaw16_alive.calls  true _ ?side1 A2.out).mono ?_); (case side1 => first | exact hG | exact hG.drewN _ | exact hG.drew | exact hG.below (qB HB.out) | (refine hG.below ?_; (repeat (first | (with_reducible exact Below.refl _ _) | (with_reducible refine pw_below_drewN ?_ _) | (with_reducible refine below_drew ?_) | (with_reducible refine below_alloc ?_ _))))); rintro e w101 ⟨rfl, hb⟩; have n0_ := qM (below_step (qB HB.out) hb); clear HB; have HB := n0_; clear n0_; (try clear hb); (try clear hb2); (try clear hk); (try clear hi)) | (go_at_call 14; (with_reducible refine (lex_Scan.calls k a0 t170 t171 t172 _ ?side1 A4.out).mono ?_); (case side1 => first | exact hG | exact hG.drewN _ | exact hG.drew | exact hG.below (qB HB.out) | (refine hG.below ?_; (repeat (first | (with_reducible exact Below.refl _ _) | (with_reducible refine pw_below_drewN ?_ _) | (with_reducible refine below_drew ?_) | (with_reducible refine below_alloc ?_ _))))); rintro e w102 ⟨v173, rfl, ho0, hb⟩; have n0_ := qM (Kd.N_lower (Kd.N_mono (ok' := fun k_ => True) (Kd.S_N (Kd.S_bound ho0)) (fun k_ hk_ => trivial)) (below_size (qB HB.out))); have n1_ := qM (below_step (qB HB.out) hb); clear HB; have HO174 := n0_; have HB := n1_; clear n0_ n1_; (try clear hb); (try clear hb2); (try clear hk); (try clear hi); (try clear ho0); obtain ⟨Ao103, co103, eo103⟩ := Kd.N_slice HO174.out; subst eo103) | (go_at_call 15; (with_reducible refine (gram_Parse.calls _ _ t170 t175 t176 t177 t178 t181 t184 t185 _ ?side1 ?side2 A6.out).mono ?_); (case side1 => repeat (first | exact (Kd.N_reads' HO174.out).2.2 | (with_reducible refine Kd.C_alloc ?_ _) | (with_reducible refine Kd.C_drewN ?_ _) | (with_reducible refine Kd.C_drew ?_))); (case side2 => exact (Kd.N_reads' HO174.out).2.1); rintro e w104 ⟨v179, v182, rfl, ho0, ho1, hb⟩; have n0_ := qM (Kd.N_mono (Kd.N_told (Kd.N_told (Kd.N_old (qN HO174.out) hb) (Kd.R_base ho0)) (Kd.R_base ho1)) (fun _ h_ => h_.1)); have n1_ := qM (Kd.R_lower ho0 (below_size (qB HB.out))); have n2_ := qM (Kd.N_lower (Kd.N_mono (ok' := fun k_ => some k_ ≠ (v179 : Value).ownBlock ∧ some k_ ≠ (.slice Ao103 t170.length co103 : Value).ownBlock) (Kd.R_N (Kd.R_bound ho1)) (fun k_ hk_ => ⟨hk_.1, (Kd.fresh' (Kd.N_lt (qN HO174.out)) k_ hk_.2.1)⟩)) (below_size (qB HB.out))); have n3_ := qM (below_step (qB HB.out) hb); clear HO174; clear HB; have HO174 := n0_; have HO180 := n1_; have HO183 := n2_; have HB := n3_; clear n0_ n1_ n2_ n3_; (try clear hb); (try clear hb2); (try clear hk); (try clear hi); (try clear ho0); (try clear ho1)) | ((with_reducible refine gate_dst (N := 6) rfl ?_); (try (refine gate_guard (by rfl) ?_; dsimp only)); refine box_event ?hg (N := 6) ?hd (cs := #[.int .i64 0, .string (⟨#[]⟩ : ByteArray), .int .i64 0, .slice none 0 0, .slice none 0 0]) (t := 28) ?hr ?_; (case hd => rfl); (case hg => rfl); (case hr => first | (go_simp; done) | (go_simp; rfl)); intro gb186 hg w105 hbox hb; have n0_ := qM (Kd.N_below (Kd.N_elderB (qN HO174.out) gb186 (Nat.le_of_eq hg.symm)) hb); have n1_ := qM (Kd.R_below (qR HO180.out) hb); have n2_ := qM (Kd.N_below (Kd.N_elderB (qN HO183.out) gb186 (Nat.le_of_eq hg.symm)) hb); have n3_ := qM (below_step (qB HB.out) hb); have n4_ := qM (hbox); have n5_ := qM ((by rw [hg]; exact (below_size (qB HB.out)) : w.heap.size ≤ gb186)); have n6_ := qM ((by rw [hg]; exact (below_size (qB HB.out)) : w.heap.size ≤ gb186)); clear HO174; clear HO180; clear HO183; clear HB; have HO174 := n0_; have HO180 := n1_; have HO183 := n2_; have HB := n3_; have BK186 := n4_; have GW186 := n5_; have GE186 := n6_; clear n0_ n1_ n2_ n3_ n4_ n5_ n6_; clear hb hbox hg; have hcz106_0 : w105.cell? ⟨gb186, 0, none⟩ = some (.int .i64 0) := (blk_cell BK186.out 0).trans rfl; have hcz106_1 : w105.cell? ⟨gb186, 1, none⟩ = some (.string (⟨#[]⟩ : ByteArray)) := (blk_cell BK186.out 1).trans rfl; have hcz106_2 : w105.cell? ⟨gb186, 2, none⟩ = some (.int .i64 0) := (blk_cell BK186.out 2).trans rfl; have hcz106_3 : w105.cell? ⟨gb186, 3, none⟩ = some (.slice none 0 0) := (blk_cell BK186.out 3).trans rfl; have hcz106_4 : w105.cell? ⟨gb186, 4, none⟩ = some (.slice none 0 0) := (blk_cell BK186.out 4).trans rfl; have hfz106_0 := blk_frozen BK186.out 0; have hfz106_1 := blk_frozen BK186.out 1; have hfz106_2 := blk_frozen BK186.out 2; have hfz106_3 := blk_frozen BK186.out 3; have hfz106_4 := blk_frozen BK186.out 4; obtain ⟨Ao107, co107, eo107⟩ := Kd.R_slice HO180.out; subst eo107; obtain ⟨Ao108, co108, eo108⟩ := Kd.N_slice HO183.out; subst eo108)); try go_wp2_with (first | (go_at_call 7; (with_reducible refine (rookerylaw16_alive.calls  true _ ?side1 A2.out).mono ?_); (case side1 => first | exact hG | exact hG.drewN _ | exact hG.drew | exact hG.below (qB HB.out) | (refine hG.below ?_; (repeat (first | (with_reducible exact Below.refl _ _) | (with_reducible refine pw_below_drewN ?_ _) | (with_reducible refine below_drew ?_) | (with_reducible refine below_alloc ?_ _))))); rintro e w101 ⟨rfl, hb⟩; have n0_ := qM (below_step (qB HB.out) hb); clear HB; have HB := n0_; clear n0_; (try clear hb); (try clear hb2); (try clear hk); (try clear hi)) | (go_at_call 14; (with_reducible refine (lex_Scan.calls k a0 t170 t171 t172 _ ?side1 A4.out).mono ?_); (case side1 => first | exact hG | exact hG.drewN _ | exact hG.drew | exact hG.below (qB HB.out) | (refine hG.below ?_; (repeat (first | (with_reducible exact Below.refl _ _) | (with_reducible refine pw_below_drewN ?_ _) | (with_reducible refine below_drew ?_) | (with_reducible refine below_alloc ?_ _))))); rintro e w102 ⟨v173, rfl, ho0, hb⟩; have n0_ := qM (Kd.N_lower (Kd.N_mono (ok' := fun k_ => True) (Kd.S_N (Kd.S_bound ho0)) (fun k_ hk_ => trivial)) (below_size (qB HB.out))); have n1_ := qM (below_step (qB HB.out) hb); clear HB; have HO174 := n0_; have HB := n1_; clear n0_ n1_; (try clear hb); (try clear hb2); (try clear hk); (try clear hi); (try clear ho0); obtain ⟨Ao103, co103, eo103⟩ := Kd.N_slice HO174.out; subst eo103) | (go_at_call 15; (with_reducible refine (gram_Parse.calls _ _ t170 t175 t176 t177 t178 t181 t184 t185 _ ?side1 ?side2 A6.out).mono ?_); (case side1 => repeat (first | exact (Kd.N_reads' HO174.out).2.2 | (with_reducible refine Kd.C_alloc ?_ _) | (with_reducible refine Kd.C_drewN ?_ _) | (with_reducible refine Kd.C_drew ?_))); (case side2 => exact (Kd.N_reads' HO174.out).2.1); rintro e w104 ⟨v179, v182, rfl, ho0, ho1, hb⟩; have n0_ := qM (Kd.N_mono (Kd.N_told (Kd.N_told (Kd.N_old (qN HO174.out) hb) (Kd.R_base ho0)) (Kd.R_base ho1)) (fun _ h_ => h_.1)); have n1_ := qM (Kd.R_lower ho0 (below_size (qB HB.out))); have n2_ := qM (Kd.N_lower (Kd.N_mono (ok' := fun k_ => some k_ ≠ (v179 : Value).ownBlock ∧ some k_ ≠ (.slice Ao103 t170.length co103 : Value).ownBlock) (Kd.R_N (Kd.R_bound ho1)) (fun k_ hk_ => ⟨hk_.1, (Kd.fresh' (Kd.N_lt (qN HO174.out)) k_ hk_.2.1)⟩)) (below_size (qB HB.out))); have n3_ := qM (below_step (qB HB.out) hb); clear HO174; clear HB; have HO174 := n0_; have HO180 := n1_; have HO183 := n2_; have HB := n3_; clear n0_ n1_ n2_ n3_; (try clear hb); (try clear hb2); (try clear hk); (try clear hi); (try clear ho0); (try clear ho1)) | ((with_reducible refine gate_dst (N := 6) rfl ?_); (try (refine gate_guard (by rfl) ?_; dsimp only)); refine box_event ?hg (N := 6) ?hd (cs := #[.int .i64 0, .string (⟨#[]⟩ : ByteArray), .int .i64 0, .slice none 0 0, .slice none 0 0]) (t := 28) ?hr ?_; (case hd => rfl); (case hg => rfl); (case hr => first | (go_simp; done) | (go_simp; rfl)); intro gb186 hg w105 hbox hb; have n0_ := qM (Kd.N_below (Kd.N_elderB (qN HO174.out) gb186 (Nat.le_of_eq hg.symm)) hb); have n1_ := qM (Kd.R_below (qR HO180.out) hb); have n2_ := qM (Kd.N_below (Kd.N_elderB (qN HO183.out) gb186 (Nat.le_of_eq hg.symm)) hb); have n3_ := qM (below_step (qB HB.out) hb); have n4_ := qM (hbox); have n5_ := qM ((by rw [hg]; exact (below_size (qB HB.out)) : w.heap.size ≤ gb186)); have n6_ := qM ((by rw [hg]; exact (below_size (qB HB.out)) : w.heap.size ≤ gb186)); clear HO174; clear HO180; clear HO183; clear HB; have HO174 := n0_; have HO180 := n1_; have HO183 := n2_; have HB := n3_; have BK186 := n4_; have GW186 := n5_; have GE186 := n6_; clear n0_ n1_ n2_ n3_ n4_ n5_ n6_; clear hb hbox hg; have hcz106_0 : w105.cell? ⟨gb186, 0, none⟩ = some (.int .i64 0) := (blk_cell BK186.out 0).trans rfl; have hcz106_1 : w105.cell? ⟨gb186, 1, none⟩ = some (.string (⟨#[]⟩ : ByteArray)) := (blk_cell BK186.out 1).trans rfl; have hcz106_2 : w105.cell? ⟨gb186, 2, none⟩ = some (.int .i64 0) := (blk_cell BK186.out 2).trans rfl; have hcz106_3 : w105.cell? ⟨gb186, 3, none⟩ = some (.slice none 0 0) := (blk_cell BK186.out 3).trans rfl; have hcz106_4 : w105.cell? ⟨gb186, 4, none⟩ = some (.slice none 0 0) := (blk_cell BK186.out 4).trans rfl; have hfz106_0 := blk_frozen BK186.out 0; have hfz106_1 := blk_frozen BK186.out 1; have hfz106_2 := blk_frozen BK186.out 2; have hfz106_3 := blk_frozen BK186.out 3; have hfz106_4 := blk_frozen BK186.out 4; obtain ⟨Ao107, co107, eo107⟩ := Kd.R_slice HO180.out; subst eo107; obtain ⟨Ao108, co108, eo108⟩ := Kd.N_slice HO183.out; subst eo108)))
      go_ret
      exact ⟨by first | rfl | (simp [errW_none, errW_some] <;> rfl) | (simp [*, errW_none, errW_some] <;> rfl), by repeat (first | (with_reducible first | exact HB.out | apply below_alloc | apply pw_below_drewN | apply below_drew1 | refine below_set ?_ GE186.out) | exact HB.out)⟩
    ·
     rw [if_neg c91] at H
     have c91b0 : decide (0 ≤ t184) = false := decide_eq_false c91
     clear c91
     obtain rfl := qI H
     go_enter Tryd.func6, Tryd.ntmps6
     go_wp2_with (first | (go_at_call 7; (with_reducible refine (rookerylaw16_alive.calls  true _ ?side1 A2.out).mono ?_); (case side1 => first | exact hG | exact hG.drewN _ | exact hG.drew | exact hG.below (qB HB.out) | (refine hG.below ?_; (repeat (first | (with_reducible exact Below.refl _ _) | (with_reducible refine pw_below_drewN ?_ _) | (with_reducible refine below_drew ?_) | (with_reducible refine below_alloc ?_ _))))); rintro e w109 ⟨rfl, hb⟩; have n0_ := qM (below_step (qB HB.out) hb); clear HB; have HB := n0_; clear n0_; (try clear hb); (try clear hb2); (try clear hk); (try clear hi)) | (go_at_call 14; (with_reducible refine (lex_Scan.calls k a0 t170 t171 t172 _ ?side1 A4.out).mono ?_); (case side1 => first | exact hG | exact hG.drewN _ | exact hG.drew | exact hG.below (qB HB.out) | (refine hG.below ?_; (repeat (first | (with_reducible exact Below.refl _ _) | (with_reducible refine pw_below_drewN ?_ _) | (with_reducible refine below_drew ?_) | (with_reducible refine below_alloc ?_ _))))); rintro e w110 ⟨v173, rfl, ho0, hb⟩; have n0_ := qM (Kd.N_lower (Kd.N_mono (ok' := fun k_ => True) (Kd.S_N (Kd.S_bound ho0)) (fun k_ hk_ => trivial)) (below_size (qB HB.out))); have n1_ := qM (below_step (qB HB.out) hb); clear HB; have HO174 := n0_; have HB := n1_; clear n0_ n1_; (try clear hb); (try clear hb2); (try clear hk); (try clear hi); (try clear ho0); obtain ⟨Ao111, co111, eo111⟩ := Kd.N_slice HO174.out; subst eo111) | (go_at_call 15; (with_reducible refine (gram_Parse.calls _ _ t170 t175 t176 t177 t178 t181 t184 t185 _ ?side1 ?side2 A6.out).mono ?_); (case side1 => repeat (first | exact (Kd.N_reads' HO174.out).2.2 | (with_reducible refine Kd.C_alloc ?_ _) | (with_reducible refine Kd.C_drewN ?_ _) | (with_reducible refine Kd.C_drew ?_))); (case side2 => exact (Kd.N_reads' HO174.out).2.1); rintro e w112 ⟨v179, v182, rfl, ho0, ho1, hb⟩; have n0_ := qM (Kd.N_mono (Kd.N_told (Kd.N_told (Kd.N_old (qN HO174.out) hb) (Kd.R_base ho0)) (Kd.R_base ho1)) (fun _ h_ => h_.1)); have n1_ := qM (Kd.R_lower ho0 (below_size (qB HB.out))); have n2_ := qM (Kd.N_lower (Kd.N_mono (ok' := fun k_ => some k_ ≠ (v179 : Value).ownBlock ∧ some k_ ≠ (.slice Ao111 t170.length co111 : Value).ownBlock) (Kd.R_N (Kd.R_bound ho1)) (fun k_ hk_ => ⟨hk_.1, (Kd.fresh' (Kd.N_lt (qN HO174.out)) k_ hk_.2.1)⟩)) (below_size (qB HB.out))); have n3_ := qM (below_step (qB HB.out) hb); clear HO174; clear HB; have HO174 := n0_; have HO180 := n1_; have HO183 := n2_; have HB := n3_; clear n0_ n1_ n2_ n3_; (try clear hb); (try clear hb2); (try clear hk); (try clear hi); (try clear ho0); (try clear ho1)) | ((with_reducible refine gate_dst (N := 6) rfl ?_); (try (refine gate_guard (by rfl) ?_; dsimp only)); refine box_event ?hg (N := 6) ?hd (cs := #[.int .i64 0, .string (⟨#[]⟩ : ByteArray), .int .i64 0, .slice none 0 0, .slice none 0 0]) (t := 28) ?hr ?_; (case hd => rfl); (case hg => rfl); (case hr => first | (go_simp; done) | (go_simp; rfl)); intro gb186 hg w113 hbox hb; have n0_ := qM (Kd.N_below (Kd.N_elderB (qN HO174.out) gb186 (Nat.le_of_eq hg.symm)) hb); have n1_ := qM (Kd.R_below (qR HO180.out) hb); have n2_ := qM (Kd.N_below (Kd.N_elderB (qN HO183.out) gb186 (Nat.le_of_eq hg.symm)) hb); have n3_ := qM (below_step (qB HB.out) hb); have n4_ := qM (hbox); have n5_ := qM ((by rw [hg]; exact (below_size (qB HB.out)) : w.heap.size ≤ gb186)); have n6_ := qM ((by rw [hg]; exact (below_size (qB HB.out)) : w.heap.size ≤ gb186)); clear HO174; clear HO180; clear HO183; clear HB; have HO174 := n0_; have HO180 := n1_; have HO183 := n2_; have HB := n3_; have BK186 := n4_; have GW186 := n5_; have GE186 := n6_; clear n0_ n1_ n2_ n3_ n4_ n5_ n6_; clear hb hbox hg; have hcz114_0 : w113.cell? ⟨gb186, 0, none⟩ = some (.int .i64 0) := (blk_cell BK186.out 0).trans rfl; have hcz114_1 : w113.cell? ⟨gb186, 1, none⟩ = some (.string (⟨#[]⟩ : ByteArray)) := (blk_cell BK186.out 1).trans rfl; have hcz114_2 : w113.cell? ⟨gb186, 2, none⟩ = some (.int .i64 0) := (blk_cell BK186.out 2).trans rfl; have hcz114_3 : w113.cell? ⟨gb186, 3, none⟩ = some (.slice none 0 0) := (blk_cell BK186.out 3).trans rfl; have hcz114_4 : w113.cell? ⟨gb186, 4, none⟩ = some (.slice none 0 0) := (blk_cell BK186.out 4).trans rfl; have hfz114_0 := blk_frozen BK186.out 0; have hfz114_1 := blk_frozen BK186.out 1; have hfz114_2 := blk_frozen BK186.out 2; have hfz114_3 := blk_frozen BK186.out 3; have hfz114_4 := blk_frozen BK186.out 4; obtain ⟨Ao115, co115, eo115⟩ := Kd.R_slice HO180.out; subst eo115; obtain ⟨Ao116, co116, eo116⟩ := Kd.N_slice HO183.out; subst eo116))
     repeat (go_quiet (first | (go_at_call 7; (with_reducible refine (rookerylaw16_alive.calls  true _ ?side1 A2.out).mono ?_); (case side1 => first | exact hG | exact hG.drewN _ | exact hG.drew | exact hG.below (qB HB.out) | (refine hG.below ?_; (repeat (first | (with_reducible exact Below.refl _ _) | (with_reducible refine pw_below_drewN ?_ _) | (with_reducible refine below_drew ?_) | (with_reducible refine below_alloc ?_ _))))); rintro e w109 ⟨rfl, hb⟩; have n0_ := qM (below_step (qB HB.out) hb); clear HB; have HB := n0_; clear n0_; (try clear hb); (try clear hb2); (try clear hk); (try clear hi)) | (go_at_call 14; (with_reducible refine (lex_Scan.calls k a0 t170 t171 t172 _ ?side1 A4.out).mono ?_); (case side1 => first | exact hG | exact hG.drewN _ | exact hG.drew | exact hG.below (qB HB.out) | (refine hG.below ?_; (repeat (first | (with_reducible exact Below.refl _ _) | (with_reducible refine pw_below_drewN ?_ _) | (with_reducible refine below_drew ?_) | (with_reducible refine below_alloc ?_ _))))); rintro e w110 ⟨v173, rfl, ho0, hb⟩; have n0_ := qM (Kd.N_lower (Kd.N_mono (ok' := fun k_ => True) (Kd.S_N (Kd.S_bound ho0)) (fun k_ hk_ => trivial)) (below_size (qB HB.out))); have n1_ := qM (below_step (qB HB.out) hb); clear HB; have HO174 := n0_; have HB := n1_; clear n0_ n1_; (try clear hb); (try clear hb2); (try clear hk); (try clear hi); (try clear ho0); obtain ⟨Ao111, co111, eo111⟩ := Kd.N_slice HO174.out; subst eo111) | (go_at_call 15; (with_reducible refine (gram_Parse.calls _ _ t170 t175 t176 t177 t178 t181 t184 t185 _ ?side1 ?side2 A6.out).mono ?_); (case side1 => repeat (first | exact (Kd.N_reads' HO174.out).2.2 | (with_reducible refine Kd.C_alloc ?_ _) | (with_reducible refine Kd.C_drewN ?_ _) | (with_reducible refine Kd.C_drew ?_))); (case side2 => exact (Kd.N_reads' HO174.out).2.1); rintro e w112 ⟨v179, v182, rfl, ho0, ho1, hb⟩; have n0_ := qM (Kd.N_mono (Kd.N_told (Kd.N_told (Kd.N_old (qN HO174.out) hb) (Kd.R_base ho0)) (Kd.R_base ho1)) (fun _ h_ => h_.1)); have n1_ := qM (Kd.R_lower ho0 (below_size (qB HB.out))); have n2_ := qM (Kd.N_lower (Kd.N_mono (ok' := fun k_ => some k_ ≠ (v179 : Value).ownBlock ∧ some k_ ≠ (.slice Ao111 t170.length co111 : Value).ownBlock) (Kd.R_N (Kd.R_bound ho1)) (fun k_ hk_ => ⟨hk_.1, (Kd.fresh' (Kd.N_lt (qN HO174.out)) k_ hk_.2.1)⟩)) (below_size (qB HB.out))); have n3_ := qM (below_step (qB HB.out) hb); clear HO174; clear HB; have HO174 := n0_; have HO180 := n1_; have HO183 := n2_; have HB := n3_; clear n0_ n1_ n2_ n3_; (try clear hb); (try clear hb2); (try clear hk); (try clear hi); (try clear ho0); (try clear ho1)) | ((with_reducible refine gate_dst (N := 6) rfl ?_); (try (refine gate_guard (by rfl) ?_; dsimp only)); refine box_event ?hg (N := 6) ?hd (cs := #[.int .i64 0, .string (⟨#[]⟩ : ByteArray), .int .i64 0, .slice none 0 0, .slice none 0 0]) (t := 28) ?hr ?_; (case hd => rfl); (case hg => rfl); (case hr => first | (go_simp; done) | (go_simp; rfl)); intro gb186 hg w113 hbox hb; have n0_ := qM (Kd.N_below (Kd.N_elderB (qN HO174.out) gb186 (Nat.le_of_eq hg.symm)) hb); have n1_ := qM (Kd.R_below (qR HO180.out) hb); have n2_ := qM (Kd.N_below (Kd.N_elderB (qN HO183.out) gb186 (Nat.le_of_eq hg.symm)) hb); have n3_ := qM (below_step (qB HB.out) hb); have n4_ := qM (hbox); have n5_ := qM ((by rw [hg]; exact (below_size (qB HB.out)) : w.heap.size ≤ gb186)); have n6_ := qM ((by rw [hg]; exact (below_size (qB HB.out)) : w.heap.size ≤ gb186)); clear HO174; clear HO180; clear HO183; clear HB; have HO174 := n0_; have HO180 := n1_; have HO183 := n2_; have HB := n3_; have BK186 := n4_; have GW186 := n5_; have GE186 := n6_; clear n0_ n1_ n2_ n3_ n4_ n5_ n6_; clear hb hbox hg; have hcz114_0 : w113.cell? ⟨gb186, 0, none⟩ = some (.int .i64 0) := (blk_cell BK186.out 0).trans rfl; have hcz114_1 : w113.cell? ⟨gb186, 1, none⟩ = some (.string (⟨#[]⟩ : ByteArray)) := (blk_cell BK186.out 1).trans rfl; have hcz114_2 : w113.cell? ⟨gb186, 2, none⟩ = some (.int .i64 0) := (blk_cell BK186.out 2).trans rfl; have hcz114_3 : w113.cell? ⟨gb186, 3, none⟩ = some (.slice none 0 0) := (blk_cell BK186.out 3).trans rfl; have hcz114_4 : w113.cell? ⟨gb186, 4, none⟩ = some (.slice none 0 0) := (blk_cell BK186.out 4).trans rfl; have hfz114_0 := blk_frozen BK186.out 0; have hfz114_1 := blk_frozen BK186.out 1; have hfz114_2 := blk_frozen BK186.out 2; have hfz114_3 := blk_frozen BK186.out 3; have hfz114_4 := blk_frozen BK186.out 4; obtain ⟨Ao115, co115, eo115⟩ := Kd.R_slice HO180.out; subst eo115; obtain ⟨Ao116, co116, eo116⟩ := Kd.N_slice HO183.out; subst eo116)); try go_wp2_with (first | (go_at_call 7; (with_reducible refine (rookerylaw16_alive.calls  true _ ?side1 A2.out).mono ?_); (case side1 => first | exact hG | exact hG.drewN _ | exact hG.drew | exact hG.below (qB HB.out) | (refine hG.below ?_; (repeat (first | (with_reducible exact Below.refl _ _) | (with_reducible refine pw_below_drewN ?_ _) | (with_reducible refine below_drew ?_) | (with_reducible refine below_alloc ?_ _))))); rintro e w109 ⟨rfl, hb⟩; have n0_ := qM (below_step (qB HB.out) hb); clear HB; have HB := n0_; clear n0_; (try clear hb); (try clear hb2); (try clear hk); (try clear hi)) | (go_at_call 14; (with_reducible refine (lex_Scan.calls k a0 t170 t171 t172 _ ?side1 A4.out).mono ?_); (case side1 => first | exact hG | exact hG.drewN _ | exact hG.drew | exact hG.below (qB HB.out) | (refine hG.below ?_; (repeat (first | (with_reducible exact Below.refl _ _) | (with_reducible refine pw_below_drewN ?_ _) | (with_reducible refine below_drew ?_) | (with_reducible refine below_alloc ?_ _))))); rintro e w110 ⟨v173, rfl, ho0, hb⟩; have n0_ := qM (Kd.N_lower (Kd.N_mono (ok' := fun k_ => True) (Kd.S_N (Kd.S_bound ho0)) (fun k_ hk_ => trivial)) (below_size (qB HB.out))); have n1_ := qM (below_step (qB HB.out) hb); clear HB; have HO174 := n0_; have HB := n1_; clear n0_ n1_; (try clear hb); (try clear hb2); (try clear hk); (try clear hi); (try clear ho0); obtain ⟨Ao111, co111, eo111⟩ := Kd.N_slice HO174.out; subst eo111) | (go_at_call 15; (with_reducible refine (gram_Parse.calls _ _ t170 t175 t176 t177 t178 t181 t184 t185 _ ?side1 ?side2 A6.out).mono ?_); (case side1 => repeat (first | exact (Kd.N_reads' HO174.out).2.2 | (with_reducible refine Kd.C_alloc ?_ _) | (with_reducible refine Kd.C_drewN ?_ _) | (with_reducible refine Kd.C_drew ?_))); (case side2 => exact (Kd.N_reads' HO174.out).2.1); rintro e w112 ⟨v179, v182, rfl, ho0, ho1, hb⟩; have n0_ := qM (Kd.N_mono (Kd.N_told (Kd.N_told (Kd.N_old (qN HO174.out) hb) (Kd.R_base ho0)) (Kd.R_base ho1)) (fun _ h_ => h_.1)); have n1_ := qM (Kd.R_lower ho0 (below_size (qB HB.out))); have n2_ := qM (Kd.N_lower (Kd.N_mono (ok' := fun k_ => some k_ ≠ (v179 : Value).ownBlock ∧ some k_ ≠ (.slice Ao111 t170.length co111 : Value).ownBlock) (Kd.R_N (Kd.R_bound ho1)) (fun k_ hk_ => ⟨hk_.1, (Kd.fresh' (Kd.N_lt (qN HO174.out)) k_ hk_.2.1)⟩)) (below_size (qB HB.out))); have n3_ := qM (below_step (qB HB.out) hb); clear HO174; clear HB; have HO174 := n0_; have HO180 := n1_; have HO183 := n2_; have HB := n3_; clear n0_ n1_ n2_ n3_; (try clear hb); (try clear hb2); (try clear hk); (try clear hi); (try clear ho0); (try clear ho1)) | ((with_reducible refine gate_dst (N := 6) rfl ?_); (try (refine gate_guard (by rfl) ?_; dsimp only)); refine box_event ?hg (N := 6) ?hd (cs := #[.int .i64 0, .string (⟨#[]⟩ : ByteArray), .int .i64 0, .slice none 0 0, .slice none 0 0]) (t := 28) ?hr ?_; (case hd => rfl); (case hg => rfl); (case hr => first | (go_simp; done) | (go_simp; rfl)); intro gb186 hg w113 hbox hb; have n0_ := qM (Kd.N_below (Kd.N_elderB (qN HO174.out) gb186 (Nat.le_of_eq hg.symm)) hb); have n1_ := qM (Kd.R_below (qR HO180.out) hb); have n2_ := qM (Kd.N_below (Kd.N_elderB (qN HO183.out) gb186 (Nat.le_of_eq hg.symm)) hb); have n3_ := qM (below_step (qB HB.out) hb); have n4_ := qM (hbox); have n5_ := qM ((by rw [hg]; exact (below_size (qB HB.out)) : w.heap.size ≤ gb186)); have n6_ := qM ((by rw [hg]; exact (below_size (qB HB.out)) : w.heap.size ≤ gb186)); clear HO174; clear HO180; clear HO183; clear HB; have HO174 := n0_; have HO180 := n1_; have HO183 := n2_; have HB := n3_; have BK186 := n4_; have GW186 := n5_; have GE186 := n6_; clear n0_ n1_ n2_ n3_ n4_ n5_ n6_; clear hb hbox hg; have hcz114_0 : w113.cell? ⟨gb186, 0, none⟩ = some (.int .i64 0) := (blk_cell BK186.out 0).trans rfl; have hcz114_1 : w113.cell? ⟨gb186, 1, none⟩ = some (.string (⟨#[]⟩ : ByteArray)) := (blk_cell BK186.out 1).trans rfl; have hcz114_2 : w113.cell? ⟨gb186, 2, none⟩ = some (.int .i64 0) := (blk_cell BK186.out 2).trans rfl; have hcz114_3 : w113.cell? ⟨gb186, 3, none⟩ = some (.slice none 0 0) := (blk_cell BK186.out 3).trans rfl; have hcz114_4 : w113.cell? ⟨gb186, 4, none⟩ = some (.slice none 0 0) := (blk_cell BK186.out 4).trans rfl; have hfz114_0 := blk_frozen BK186.out 0; have hfz114_1 := blk_frozen BK186.out 1; have hfz114_2 := blk_frozen BK186.out 2; have hfz114_3 := blk_frozen BK186.out 3; have hfz114_4 := blk_frozen BK186.out 4; obtain ⟨Ao115, co115, eo115⟩ := Kd.R_slice HO180.out; subst eo115; obtain ⟨Ao116, co116, eo116⟩ := Kd.N_slice HO183.out; subst eo116)))
     go_ret
     exact ⟨by first | rfl | (simp [errW_none, errW_some] <;> rfl) | (simp [*, errW_none, errW_some] <;> rfl), by repeat (first | (with_reducible first | exact HB.out | apply below_alloc | apply pw_below_drewN | apply below_drew1 | refine below_set ?_ GE186.out) | exact HB.out)⟩
  ·
   rw [if_neg c5] at H
   have c5b0 : (t172 == 0) = false := beq_eq_false_iff_ne.mpr c5
   have c5b1 : (t172 != 0) = true := bne_iff_ne.mpr c5
   obtain rfl := qI H
   go_enter Tryd.func6, Tryd.ntmps6
   go_wp2_with (first | (go_at_call 7; (with_reducible refine (rookerylaw16_alive.calls  true _ ?side1 A2.out).mono ?_); (case side1 => first | exact hG | exact hG.drewN _ | exact hG.drew | exact hG.below (qB HB.out) | (refine hG.below ?_; (repeat (first | (with_reducible exact Below.refl _ _) | (with_reducible refine pw_below_drewN ?_ _) | (with_reducible refine below_drew ?_) | (with_reducible refine below_alloc ?_ _))))); rintro e w117 ⟨rfl, hb⟩; have n0_ := qM (below_step (qB HB.out) hb); clear HB; have HB := n0_; clear n0_; (try clear hb); (try clear hb2); (try clear hk); (try clear hi)) | (go_at_call 14; (with_reducible refine (lex_Scan.calls k a0 t170 t171 t172 _ ?side1 A4.out).mono ?_); (case side1 => first | exact hG | exact hG.drewN _ | exact hG.drew | exact hG.below (qB HB.out) | (refine hG.below ?_; (repeat (first | (with_reducible exact Below.refl _ _) | (with_reducible refine pw_below_drewN ?_ _) | (with_reducible refine below_drew ?_) | (with_reducible refine below_alloc ?_ _))))); rintro e w118 ⟨v173, rfl, ho0, hb⟩; have n0_ := qM (Kd.N_lower (Kd.N_mono (ok' := fun k_ => True) (Kd.S_N (Kd.S_bound ho0)) (fun k_ hk_ => trivial)) (below_size (qB HB.out))); have n1_ := qM (below_step (qB HB.out) hb); clear HB; have HO174 := n0_; have HB := n1_; clear n0_ n1_; (try clear hb); (try clear hb2); (try clear hk); (try clear hi); (try clear ho0)))
   repeat (go_quiet (first | (go_at_call 7; (with_reducible refine (rookerylaw16_alive.calls  true _ ?side1 A2.out).mono ?_); (case side1 => first | exact hG | exact hG.drewN _ | exact hG.drew | exact hG.below (qB HB.out) | (refine hG.below ?_; (repeat (first | (with_reducible exact Below.refl _ _) | (with_reducible refine pw_below_drewN ?_ _) | (with_reducible refine below_drew ?_) | (with_reducible refine below_alloc ?_ _))))); rintro e w117 ⟨rfl, hb⟩; have n0_ := qM (below_step (qB HB.out) hb); clear HB; have HB := n0_; clear n0_; (try clear hb); (try clear hb2); (try clear hk); (try clear hi)) | (go_at_call 14; (with_reducible refine (lex_Scan.calls k a0 t170 t171 t172 _ ?side1 A4.out).mono ?_); (case side1 => first | exact hG | exact hG.drewN _ | exact hG.drew | exact hG.below (qB HB.out) | (refine hG.below ?_; (repeat (first | (with_reducible exact Below.refl _ _) | (with_reducible refine pw_below_drewN ?_ _) | (with_reducible refine below_drew ?_) | (with_reducible refine below_alloc ?_ _))))); rintro e w118 ⟨v173, rfl, ho0, hb⟩; have n0_ := qM (Kd.N_lower (Kd.N_mono (ok' := fun k_ => True) (Kd.S_N (Kd.S_bound ho0)) (fun k_ hk_ => trivial)) (below_size (qB HB.out))); have n1_ := qM (below_step (qB HB.out) hb); clear HB; have HO174 := n0_; have HB := n1_; clear n0_ n1_; (try clear hb); (try clear hb2); (try clear hk); (try clear hi); (try clear ho0))); try go_wp2_with (first | (go_at_call 7; (with_reducible refine (rookerylaw16_alive.calls  true _ ?side1 A2.out).mono ?_); (case side1 => first | exact hG | exact hG.drewN _ | exact hG.drew | exact hG.below (qB HB.out) | (refine hG.below ?_; (repeat (first | (with_reducible exact Below.refl _ _) | (with_reducible refine pw_below_drewN ?_ _) | (with_reducible refine below_drew ?_) | (with_reducible refine below_alloc ?_ _))))); rintro e w117 ⟨rfl, hb⟩; have n0_ := qM (below_step (qB HB.out) hb); clear HB; have HB := n0_; clear n0_; (try clear hb); (try clear hb2); (try clear hk); (try clear hi)) | (go_at_call 14; (with_reducible refine (lex_Scan.calls k a0 t170 t171 t172 _ ?side1 A4.out).mono ?_); (case side1 => first | exact hG | exact hG.drewN _ | exact hG.drew | exact hG.below (qB HB.out) | (refine hG.below ?_; (repeat (first | (with_reducible exact Below.refl _ _) | (with_reducible refine pw_below_drewN ?_ _) | (with_reducible refine below_drew ?_) | (with_reducible refine below_alloc ?_ _))))); rintro e w118 ⟨v173, rfl, ho0, hb⟩; have n0_ := qM (Kd.N_lower (Kd.N_mono (ok' := fun k_ => True) (Kd.S_N (Kd.S_bound ho0)) (fun k_ hk_ => trivial)) (below_size (qB HB.out))); have n1_ := qM (below_step (qB HB.out) hb); clear HB; have HO174 := n0_; have HB := n1_; clear n0_ n1_; (try clear hb); (try clear hb2); (try clear hk); (try clear hi); (try clear ho0))))
   go_ret
   exact ⟨by first | rfl | (simp [errW_none, errW_some] <;> rfl) | (simp [*, errW_none, errW_some] <;> rfl), by repeat (first | (with_reducible first | exact HB.out | apply below_alloc | apply pw_below_drewN | apply below_drew1) | exact HB.out)⟩
 ·
  replace c3 := Bool.eq_false_iff.mpr c3
  subst c3
  have H1 : (some false) = some r := by rw [if_neg (show ¬ (false = true) by decide)] at H; exact H
  clear H
  have H := H1
  clear H1
  obtain rfl := qI H
  go_enter Tryd.func6, Tryd.ntmps6
  go_wp2_with (first | (go_at_call 7; (with_reducible refine (rookerylaw16_alive.calls  false _ ?side1 A2.out).mono ?_); (case side1 => first | exact hG | exact hG.drewN _ | exact hG.drew | exact hG.below (qB HB.out) | (refine hG.below ?_; (repeat (first | (with_reducible exact Below.refl _ _) | (with_reducible refine pw_below_drewN ?_ _) | (with_reducible refine below_drew ?_) | (with_reducible refine below_alloc ?_ _))))); rintro e w119 ⟨rfl, hb⟩; have n0_ := qM (below_step (qB HB.out) hb); clear HB; have HB := n0_; clear n0_; (try clear hb); (try clear hb2); (try clear hk); (try clear hi)))
  repeat (go_quiet (first | (go_at_call 7; (with_reducible refine (rookerylaw16_alive.calls  false _ ?side1 A2.out).mono ?_); (case side1 => first | exact hG | exact hG.drewN _ | exact hG.drew | exact hG.below (qB HB.out) | (refine hG.below ?_; (repeat (first | (with_reducible exact Below.refl _ _) | (with_reducible refine pw_below_drewN ?_ _) | (with_reducible refine below_drew ?_) | (with_reducible refine below_alloc ?_ _))))); rintro e w119 ⟨rfl, hb⟩; have n0_ := qM (below_step (qB HB.out) hb); clear HB; have HB := n0_; clear n0_; (try clear hb); (try clear hb2); (try clear hk); (try clear hi))); try go_wp2_with (first | (go_at_call 7; (with_reducible refine (rookerylaw16_alive.calls  false _ ?side1 A2.out).mono ?_); (case side1 => first | exact hG | exact hG.drewN _ | exact hG.drew | exact hG.below (qB HB.out) | (refine hG.below ?_; (repeat (first | (with_reducible exact Below.refl _ _) | (with_reducible refine pw_below_drewN ?_ _) | (with_reducible refine below_drew ?_) | (with_reducible refine below_alloc ?_ _))))); rintro e w119 ⟨rfl, hb⟩; have n0_ := qM (below_step (qB HB.out) hb); clear HB; have HB := n0_; clear n0_; (try clear hb); (try clear hb2); (try clear hk); (try clear hi))))
  go_ret
  exact ⟨by first | rfl | (simp [errW_none, errW_some] <;> rfl) | (simp [*, errW_none, errW_some] <;> rfl), by repeat (first | (with_reducible first | exact HB.out | apply below_alloc | apply pw_below_drewN | apply below_drew1) | exact HB.out)⟩

/-- THE ONE PURE STATEMENT of rookerylaw16_GramYields: yours. -/
def rookerylaw16_GramYields.Pure : Prop := ∀ (a0 : ByteArray), a0.size ≤ 140737488351232 → ∃ k, rookerylaw16_GramYields.f k a0 = some true
theorem rookerylaw16_GramYields.walk (P : rookerylaw16_GramYields.Pure) (a0 : ByteArray) (w : World) (w0 : a0.size ≤ 140737488351232) (hG : Glob w) :
  Calls Tryd.prog 6 #[.string a0] w fun e w' => e = .returned (.bool true) ∧ Below w.heap.size w w' := by
 obtain ⟨k, h⟩ := P a0 w0
 refine (rookerylaw16_GramYields.calls k a0 true w hG h).mono ?_
 rintro e w' ⟨rfl, hd⟩
 exact ⟨rfl, hd⟩

end Go.Proofs.YtejidddjkngoiaaDoor.PGram
