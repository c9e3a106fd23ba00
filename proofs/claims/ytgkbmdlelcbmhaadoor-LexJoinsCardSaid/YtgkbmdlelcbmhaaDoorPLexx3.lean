-- Written by a turned copy of the kit's printer (wip/patch_print.py), in this project; not trusted: Lean checks it.
import Derived.Test.YtgkbmdlelcbmhaaDoorPLexx0
import Derived.Test.YtgkbmdlelcbmhaaDoorPLexx2
namespace Go.Proofs.YtgkbmdlelcbmhaaDoor.PLex
open Go.RowKit Go.Proofs.YtgkbmdlelcbmhaaDoorW.PrintWords Go.Proofs.YtgkbmdlelcbmhaaDoorW.PrintLast Go.Proofs.YtgkbmdlelcbmhaaDoorW.PrintMore
attribute [local go_sem] max2_int min2_int max_two min_two max_three min_three max_four min_four   -- for this text's walks alone
set_option linter.unusedVariables false
set_option linter.unusedSimpArgs false

/-! ### rookerylaw15_LexJoins: function 7 -/
mutual
def rookerylaw15_LexJoins.j0 : Nat → ByteArray → ByteArray → List (S33) → List (S33) → Bool → Option (Bool)
 | 0, _, _, _, _, _ => none
 | k + 1, x0, x1, x5, x8, x51 => if x51 = true then (some true) else (if x0.size + 1 ≤ 9223372036854775807 then (if (x0 ++ (⟨#[10]⟩ : ByteArray)).size + x1.size ≤ 9223372036854775807 then ((lex_Scan.f k ((x0 ++ (⟨#[10]⟩ : ByteArray)) ++ x1)).bind fun bt173 => (if bt173.2.2 = 0 then (rookerylaw15_LexJoins.j1 k x0 x5 x8 bt173.1 ((bt173.1.length : Int) != (wrap64 ((x5.length : Int) + (x8.length : Int))))) else (rookerylaw15_LexJoins.j1 k x0 x5 x8 bt173.1 true))) else (none)) else (none))
def rookerylaw15_LexJoins.j1 : Nat → ByteArray → List (S33) → List (S33) → List (S33) → Bool → Option (Bool)
 | 0, _, _, _, _, _ => none
 | k + 1, x0, x5, x8, x11, x72 => if x72 = true then (some false) else (rookerylaw15_LexJoins.l0 k x0 x5 x8 x11 0)
def rookerylaw15_LexJoins.l0 : Nat → ByteArray → List (S33) → List (S33) → List (S33) → Int → Option (Bool)
 | 0, _, _, _, _, _ => none
 | k + 1, x0, x5, x8, x11, x14 => if x14 < (x11.length : Int) then (if x14 < (x5.length : Int) then (if 0 ≤ x14 then ((rookeryref15_Same.f ((rd_T33 x11 x14).f0) ((rd_T33 x11 x14).f1) ((rd_T33 x11 x14).f2) ((rd_T33 x11 x14).f3) ((rd_T33 x11 x14).f4) ((rd_T33 x5 x14).f0) ((rd_T33 x5 x14).f1) ((rd_T33 x5 x14).f2) ((rd_T33 x5 x14).f3) ((rd_T33 x5 x14).f4)).bind fun t180 => (if t180 = true then (rookerylaw15_LexJoins.j3 k x0 x5 x8 x11 x14 (((rd_T33 x11 x14).f4) != ((rd_T33 x5 x14).f4))) else (rookerylaw15_LexJoins.j3 k x0 x5 x8 x11 x14 true))) else (none)) else (rookerylaw15_LexJoins.j3 k x0 x5 x8 x11 x14 false)) else (some true)
def rookerylaw15_LexJoins.j3 : Nat → ByteArray → List (S33) → List (S33) → List (S33) → Int → Bool → Option (Bool)
 | 0, _, _, _, _, _, _ => none
 | k + 1, x0, x5, x8, x11, x14, x107 => if x107 = true then (some false) else (if x14 ≥ (x5.length : Int) then (if 0 ≤ x14 then (if x14 < (x11.length : Int) then (if 0 ≤ (wrap64 (x14 - (x5.length : Int))) then (if (wrap64 (x14 - (x5.length : Int))) < (x8.length : Int) then ((rookeryref15_Same.f ((rd_T33 x11 x14).f0) ((rd_T33 x11 x14).f1) ((rd_T33 x11 x14).f2) ((rd_T33 x11 x14).f3) ((rd_T33 x11 x14).f4) ((rd_T33 x8 (wrap64 (x14 - (x5.length : Int)))).f0) ((rd_T33 x8 (wrap64 (x14 - (x5.length : Int)))).f1) ((rd_T33 x8 (wrap64 (x14 - (x5.length : Int)))).f2) ((rd_T33 x8 (wrap64 (x14 - (x5.length : Int)))).f3) ((rd_T33 x8 (wrap64 (x14 - (x5.length : Int)))).f4)).bind fun t185 => (if t185 = true then (if ((rd_T33 x11 x14).f4) = (wrap64 ((wrap64 (((rd_T33 x8 (wrap64 (x14 - (x5.length : Int)))).f4) + (x0.size : Int))) + 1)) then (rookerylaw15_LexJoins.l0 k x0 x5 x8 x11 (wrap64 (x14 + 1))) else (some false)) else (some false))) else (none)) else (none)) else (none)) else (none)) else (rookerylaw15_LexJoins.l0 k x0 x5 x8 x11 (wrap64 (x14 + 1))))
end
def rookerylaw15_LexJoins.f (k : Nat) (a0 : ByteArray) (a1 : ByteArray) : Option (Bool) := (rookerylaw15_alive.f k).bind fun t162 => (if t162 = true then ((lex_Scan.f k a0).bind fun bt163 => ((lex_Scan.f k a1).bind fun bt168 => (if bt163.2.2 = 0 then (if bt168.2.2 = 0 then (if (wrap64 ((wrap64 ((a0.size : Int) + (a1.size : Int))) + 1)) > 16384 then (rookerylaw15_LexJoins.j0 k a0 a1 bt163.1 bt168.1 true) else (rookerylaw15_LexJoins.j0 k a0 a1 bt163.1 bt168.1 (decide ((wrap64 ((bt163.1.length : Int) + (bt168.1.length : Int))) > 4000)))) else (rookerylaw15_LexJoins.j0 k a0 a1 bt163.1 bt168.1 true)) else (rookerylaw15_LexJoins.j0 k a0 a1 bt163.1 bt168.1 true)))) else (some false))
theorem rookerylaw15_LexJoins.mono_l : ∀ k, (∀ y0 y1 y2 y3 y4, LeO (rookerylaw15_LexJoins.j0 k y0 y1 y2 y3 y4) (rookerylaw15_LexJoins.j0 (k + 1) y0 y1 y2 y3 y4)) ∧ (∀ y0 y1 y2 y3 y4, LeO (rookerylaw15_LexJoins.j1 k y0 y1 y2 y3 y4) (rookerylaw15_LexJoins.j1 (k + 1) y0 y1 y2 y3 y4)) ∧ (∀ y0 y1 y2 y3 y4, LeO (rookerylaw15_LexJoins.l0 k y0 y1 y2 y3 y4) (rookerylaw15_LexJoins.l0 (k + 1) y0 y1 y2 y3 y4)) ∧ (∀ y0 y1 y2 y3 y4 y5, LeO (rookerylaw15_LexJoins.j3 k y0 y1 y2 y3 y4 y5) (rookerylaw15_LexJoins.j3 (k + 1) y0 y1 y2 y3 y4 y5))
 | 0 => ⟨fun _ _ _ _ _ r h => by simp [rookerylaw15_LexJoins.j0] at h, fun _ _ _ _ _ r h => by simp [rookerylaw15_LexJoins.j1] at h, fun _ _ _ _ _ r h => by simp [rookerylaw15_LexJoins.l0] at h, fun _ _ _ _ _ _ r h => by simp [rookerylaw15_LexJoins.j3] at h⟩
 | k + 1 => by
  obtain ⟨ih0, ih1, ih2, ih3⟩ := rookerylaw15_LexJoins.mono_l k
  refine ⟨?_, ?_, ?_, ?_⟩
  ·
   intro y0 y1 y2 y3 y4
   unfold rookerylaw15_LexJoins.j0
   repeat' first
   | (with_reducible exact ih0 _ _ _ _ _)
   | (with_reducible exact ih1 _ _ _ _ _)
   | (with_reducible exact ih2 _ _ _ _ _)
   | (with_reducible exact ih3 _ _ _ _ _ _)
   | (with_reducible exact lex_Scan.mono _ _)
   | (with_reducible exact rookerylaw15_alive.mono _)
   | (with_reducible exact LeO.refl _)
   | (with_reducible exact LeO.none _)
   | (with_reducible refine LeO.ite ?_ ?_)
   | (with_reducible refine LeO.bind ?_ (fun _ => ?_))
   | exact ih0 _ _ _ _ _
   | exact ih1 _ _ _ _ _
   | exact ih2 _ _ _ _ _
   | exact ih3 _ _ _ _ _ _
   | exact lex_Scan.mono _ _
   | exact rookerylaw15_alive.mono _
   | exact LeO.none _
   | refine LeO.ite ?_ ?_
   | refine LeO.bind ?_ (fun _ => ?_)
  ·
   intro y0 y1 y2 y3 y4
   unfold rookerylaw15_LexJoins.j1
   repeat' first
   | (with_reducible exact ih0 _ _ _ _ _)
   | (with_reducible exact ih1 _ _ _ _ _)
   | (with_reducible exact ih2 _ _ _ _ _)
   | (with_reducible exact ih3 _ _ _ _ _ _)
   | (with_reducible exact lex_Scan.mono _ _)
   | (with_reducible exact rookerylaw15_alive.mono _)
   | (with_reducible exact LeO.refl _)
   | (with_reducible exact LeO.none _)
   | (with_reducible refine LeO.ite ?_ ?_)
   | (with_reducible refine LeO.bind ?_ (fun _ => ?_))
   | exact ih0 _ _ _ _ _
   | exact ih1 _ _ _ _ _
   | exact ih2 _ _ _ _ _
   | exact ih3 _ _ _ _ _ _
   | exact lex_Scan.mono _ _
   | exact rookerylaw15_alive.mono _
   | exact LeO.none _
   | refine LeO.ite ?_ ?_
   | refine LeO.bind ?_ (fun _ => ?_)
  ·
   intro y0 y1 y2 y3 y4
   unfold rookerylaw15_LexJoins.l0
   repeat' first
   | (with_reducible exact ih0 _ _ _ _ _)
   | (with_reducible exact ih1 _ _ _ _ _)
   | (with_reducible exact ih2 _ _ _ _ _)
   | (with_reducible exact ih3 _ _ _ _ _ _)
   | (with_reducible exact lex_Scan.mono _ _)
   | (with_reducible exact rookerylaw15_alive.mono _)
   | (with_reducible exact LeO.refl _)
   | (with_reducible exact LeO.none _)
   | (with_reducible refine LeO.ite ?_ ?_)
   | (with_reducible refine LeO.bind ?_ (fun _ => ?_))
   | exact ih0 _ _ _ _ _
   | exact ih1 _ _ _ _ _
   | exact ih2 _ _ _ _ _
   | exact ih3 _ _ _ _ _ _
   | exact lex_Scan.mono _ _
   | exact rookerylaw15_alive.mono _
   | exact LeO.none _
   | refine LeO.ite ?_ ?_
   | refine LeO.bind ?_ (fun _ => ?_)
  ·
   intro y0 y1 y2 y3 y4 y5
   unfold rookerylaw15_LexJoins.j3
   repeat' first
   | (with_reducible exact ih0 _ _ _ _ _)
   | (with_reducible exact ih1 _ _ _ _ _)
   | (with_reducible exact ih2 _ _ _ _ _)
   | (with_reducible exact ih3 _ _ _ _ _ _)
   | (with_reducible exact lex_Scan.mono _ _)
   | (with_reducible exact rookerylaw15_alive.mono _)
   | (with_reducible exact LeO.refl _)
   | (with_reducible exact LeO.none _)
   | (with_reducible refine LeO.ite ?_ ?_)
   | (with_reducible refine LeO.bind ?_ (fun _ => ?_))
   | exact ih0 _ _ _ _ _
   | exact ih1 _ _ _ _ _
   | exact ih2 _ _ _ _ _
   | exact ih3 _ _ _ _ _ _
   | exact lex_Scan.mono _ _
   | exact rookerylaw15_alive.mono _
   | exact LeO.none _
   | refine LeO.ite ?_ ?_
   | refine LeO.bind ?_ (fun _ => ?_)
theorem rookerylaw15_LexJoins.mono : ∀ a0 a1 k, LeO (rookerylaw15_LexJoins.f k a0 a1) (rookerylaw15_LexJoins.f (k + 1) a0 a1) := by
 intro a0 a1 k
 obtain ⟨ih0, ih1, ih2, ih3⟩ := rookerylaw15_LexJoins.mono_l k
 unfold rookerylaw15_LexJoins.f
 repeat' first
   | (with_reducible exact ih0 _ _ _ _ _)
   | (with_reducible exact ih1 _ _ _ _ _)
   | (with_reducible exact ih2 _ _ _ _ _)
   | (with_reducible exact ih3 _ _ _ _ _ _)
   | (with_reducible exact lex_Scan.mono _ _)
   | (with_reducible exact rookerylaw15_alive.mono _)
   | (with_reducible exact LeO.refl _)
   | (with_reducible exact LeO.none _)
   | (with_reducible refine LeO.ite ?_ ?_)
   | (with_reducible refine LeO.bind ?_ (fun _ => ?_))
   | exact ih0 _ _ _ _ _
   | exact ih1 _ _ _ _ _
   | exact ih2 _ _ _ _ _
   | exact ih3 _ _ _ _ _ _
   | exact lex_Scan.mono _ _
   | exact rookerylaw15_alive.mono _
   | exact LeO.none _
   | refine LeO.ite ?_ ?_
   | refine LeO.bind ?_ (fun _ => ?_)
def rookerylaw15_LexJoins.T13 : Bool × List (List Nat × List Nat) := (true, [([], []), ([], []), ([1], [1]), ([0, 2], [0, 2]), ([3], [3]), ([4], [4]), ([4], [4]), ([5, 6, 4], [4, 5, 6]), ([7, 4], [4, 7]), ([4], [4]), ([4], [4]), ([9, 10, 4], [4, 9, 10]), ([11, 4], [4, 11]), ([8, 12, 4, 4], [4, 8, 12]), ([13, 4], [4, 13]), ([14, 13, 4], [4, 14]), ([15], [15]), ([15], [15]), ([16, 17, 15], [15, 16, 17]), ([18, 15], [15, 18]), ([19, 15], [15, 19]), ([15], [15]), ([15], [15]), ([21, 22, 15], [15, 21, 22]), ([23, 15], [15, 23]), ([24, 15], [15, 24]), ([20, 25, 15], [15, 20, 25]), ([15, 26, 4], [4, 15, 26]), ([4, 27], [4, 27])])
def rookerylaw15_LexJoins.B13 : List Nat := [0, 0, 2, 7, 15, 31, 31, 127, 255, 31, 31, 1567, 3615, 8191, 16383, 32767, 65535, 65535, 262143, 524287, 1048575, 65535, 65535, 6356991, 14745599, 31522815, 67108863, 134217727, 268435455]
theorem rookerylaw15_LexJoins.tab13 : rtab .any (opsOf Tryd.f7 13) = rookerylaw15_LexJoins.T13 := by kernel_rfl
theorem rookerylaw15_LexJoins.bits13 : waitsOk rookerylaw15_LexJoins.T13.2 rookerylaw15_LexJoins.B13 = true := by kernel_rfl
def rookerylaw15_LexJoins.T15 : Bool × List (List Nat × List Nat) := (true, [([], []), ([], []), ([1], [1]), ([0, 2], [0, 2]), ([3], [3]), ([4], [4]), ([4], [4]), ([5, 6, 4], [4, 5, 6]), ([7, 4], [4, 7]), ([4], [4]), ([4], [4]), ([4], [4]), ([11, 4], [4, 11]), ([10, 12, 4], [4, 10, 12]), ([9, 13, 4], [4, 9, 13]), ([14, 4], [4, 14]), ([8, 15, 4, 4], [4, 8, 15]), ([16, 4], [4, 16]), ([17, 16, 4], [4, 17]), ([18], [18]), ([18], [18]), ([19, 20, 18], [18, 19, 20]), ([21, 18], [18, 21]), ([22, 18], [18, 22]), ([18], [18]), ([18], [18]), ([18], [18]), ([26, 18], [18, 26]), ([25, 27, 18], [18, 25, 27]), ([24, 28, 18], [18, 24, 28]), ([29, 18], [18, 29]), ([30, 18], [18, 30]), ([18], [18]), ([32, 18], [18, 32]), ([31, 33, 18], [18, 31, 33]), ([34, 18], [18, 34]), ([23, 35, 18], [18, 23, 35]), ([18, 36, 4], [4, 18, 36]), ([4, 37], [4, 37])])
def rookerylaw15_LexJoins.B15 : List Nat := [0, 0, 2, 7, 15, 31, 31, 127, 255, 31, 31, 31, 2079, 7199, 15903, 32287, 65535, 131071, 262143, 524287, 524287, 2097151, 4194303, 8388607, 524287, 524287, 524287, 67633151, 235405311, 520617983, 1057488895, 2131230719, 524287, 4295491583, 17163616255, 34343485439, 68719476735, 137438953471, 274877906943]
theorem rookerylaw15_LexJoins.tab15 : rtab .any (opsOf Tryd.f7 15) = rookerylaw15_LexJoins.T15 := by kernel_rfl
theorem rookerylaw15_LexJoins.bits15 : waitsOk rookerylaw15_LexJoins.T15.2 rookerylaw15_LexJoins.B15 = true := by kernel_rfl
set_option maxHeartbeats 8000000 in
set_option maxRecDepth 100000 in
theorem rookerylaw15_LexJoins.calls (k : Nat) (a0 : ByteArray) (a1 : ByteArray) (r : Bool) (w : World) (hG : Glob w) (h : rookerylaw15_LexJoins.f k a0 a1 = some r) :
  Calls Tryd.prog 7 #[.string a0, .string a1] w fun e w' => e = .returned (.bool r) ∧ Below w.heap.size w w' := by
 have hu33 := Tryd.underlying33
 have HB := Aside0.mk (Below.refl w.heap.size w)
 have H : ((rookerylaw15_alive.f k).bind fun t162 => (if t162 = true then ((lex_Scan.f k a0).bind fun bt163 => ((lex_Scan.f k a1).bind fun bt168 => (if bt163.2.2 = 0 then (if bt168.2.2 = 0 then (if (wrap64 ((wrap64 ((a0.size : Int) + (a1.size : Int))) + 1)) > 16384 then (rookerylaw15_LexJoins.j0 k a0 a1 bt163.1 bt168.1 true) else (rookerylaw15_LexJoins.j0 k a0 a1 bt163.1 bt168.1 (decide ((wrap64 ((bt163.1.length : Int) + (bt168.1.length : Int))) > 4000)))) else (rookerylaw15_LexJoins.j0 k a0 a1 bt163.1 bt168.1 true)) else (rookerylaw15_LexJoins.j0 k a0 a1 bt163.1 bt168.1 true)))) else (some false))) = some r := h
 clear h
 replace H := Option.bind_eq_some_iff.mp H
 obtain ⟨t162, A30, H⟩ := H
 replace H : (if t162 = true then ((lex_Scan.f k a0).bind fun bt163 => ((lex_Scan.f k a1).bind fun bt168 => (if bt163.2.2 = 0 then (if bt168.2.2 = 0 then (if (wrap64 ((wrap64 ((a0.size : Int) + (a1.size : Int))) + 1)) > 16384 then (rookerylaw15_LexJoins.j0 k a0 a1 bt163.1 bt168.1 true) else (rookerylaw15_LexJoins.j0 k a0 a1 bt163.1 bt168.1 (decide ((wrap64 ((bt163.1.length : Int) + (bt168.1.length : Int))) > 4000)))) else (rookerylaw15_LexJoins.j0 k a0 a1 bt163.1 bt168.1 true)) else (rookerylaw15_LexJoins.j0 k a0 a1 bt163.1 bt168.1 true)))) else (some false)) = some r := H
 have A3 := Aside0.mk A30
 clear A30
 by_cases c4 : t162 = true
 ·
  subst c4
  have H1 : ((lex_Scan.f k a0).bind fun bt163 => ((lex_Scan.f k a1).bind fun bt168 => (if bt163.2.2 = 0 then (if bt168.2.2 = 0 then (if (wrap64 ((wrap64 ((a0.size : Int) + (a1.size : Int))) + 1)) > 16384 then (rookerylaw15_LexJoins.j0 k a0 a1 bt163.1 bt168.1 true) else (rookerylaw15_LexJoins.j0 k a0 a1 bt163.1 bt168.1 (decide ((wrap64 ((bt163.1.length : Int) + (bt168.1.length : Int))) > 4000)))) else (rookerylaw15_LexJoins.j0 k a0 a1 bt163.1 bt168.1 true)) else (rookerylaw15_LexJoins.j0 k a0 a1 bt163.1 bt168.1 true)))) = some r := by rw [if_pos rfl] at H; exact H
  clear H
  have H := H1
  clear H1
  replace H := Option.bind_eq_some_iff.mp H
  obtain ⟨⟨t163, t164, t165⟩, A50, H⟩ := H
  replace H : ((lex_Scan.f k a1).bind fun bt168 => (if t165 = 0 then (if bt168.2.2 = 0 then (if (wrap64 ((wrap64 ((a0.size : Int) + (a1.size : Int))) + 1)) > 16384 then (rookerylaw15_LexJoins.j0 k a0 a1 t163 bt168.1 true) else (rookerylaw15_LexJoins.j0 k a0 a1 t163 bt168.1 (decide ((wrap64 ((t163.length : Int) + (bt168.1.length : Int))) > 4000)))) else (rookerylaw15_LexJoins.j0 k a0 a1 t163 bt168.1 true)) else (rookerylaw15_LexJoins.j0 k a0 a1 t163 bt168.1 true))) = some r := H
  have A5 := Aside0.mk A50
  clear A50
  replace H := Option.bind_eq_some_iff.mp H
  obtain ⟨⟨t168, t169, t170⟩, A60, H⟩ := H
  replace H : (if t165 = 0 then (if t170 = 0 then (if (wrap64 ((wrap64 ((a0.size : Int) + (a1.size : Int))) + 1)) > 16384 then (rookerylaw15_LexJoins.j0 k a0 a1 t163 t168 true) else (rookerylaw15_LexJoins.j0 k a0 a1 t163 t168 (decide ((wrap64 ((t163.length : Int) + (t168.length : Int))) > 4000)))) else (rookerylaw15_LexJoins.j0 k a0 a1 t163 t168 true)) else (rookerylaw15_LexJoins.j0 k a0 a1 t163 t168 true)) = some r := H
  have A6 := Aside0.mk A60
  clear A60
  have HC7 := Aside0.mk H
  clear H
  go_enter Tryd.func7, Tryd.ntmps7
  go_upto_region 5 with (first | ((with_reducible refine gate_callee (f := 13) rfl ?_); refine goesL_ (some 15) rfl rfl Tryd.func13 (by kernel_rfl) rfl #[] rfl (by (try simp only [List.map_toArray, List.map_cons, List.map_nil]); first | done | rfl | (simp only [List.length_drop, List.length_take]; rfl)) ?_; (with_reducible refine (rookerylaw15_alive.calls k  true _ ?side1 A3.out).mono ?_); (case side1 => first | exact hG | exact hG.drewN _ | exact hG.drew | exact hG.below (by repeat (first | (with_reducible first | exact HB.out | apply below_alloc | apply pw_below_drewN | apply below_drew1) | exact HB.out)) | (refine hG.below ?_; (repeat (first | (with_reducible exact Below.refl _ _) | (with_reducible refine pw_below_drewN ?_ _) | (with_reducible refine below_drew ?_) | (with_reducible refine below_alloc ?_ _))))); rintro e w8 ⟨rfl, hb⟩; refine ⟨_, rfl, ?_⟩; have n0_ := Aside0.mk (below_step (by repeat (first | (with_reducible first | exact HB.out | apply below_alloc | apply pw_below_drewN | apply below_drew1) | exact HB.out)) hb); clear HB; have HB := n0_; clear n0_; (try clear hb); (try clear hb2); (try clear hk); (try clear hi)) | ((with_reducible refine gate_callee (f := 14) rfl ?_); refine goesL_ (some 19) rfl rfl Tryd.func14 (by kernel_rfl) rfl #[.string a0] rfl (by (try simp only [List.map_toArray, List.map_cons, List.map_nil]); first | done | rfl | (simp only [List.length_drop, List.length_take]; rfl)) ?_; (with_reducible refine (lex_Scan.calls k a0 t163 t164 t165 _ ?side1 A5.out).mono ?_); (case side1 => first | exact hG | exact hG.drewN _ | exact hG.drew | exact hG.below (by repeat (first | (with_reducible first | exact HB.out | apply below_alloc | apply pw_below_drewN | apply below_drew1) | exact HB.out)) | (refine hG.below ?_; (repeat (first | (with_reducible exact Below.refl _ _) | (with_reducible refine pw_below_drewN ?_ _) | (with_reducible refine below_drew ?_) | (with_reducible refine below_alloc ?_ _))))); rintro e w9 ⟨v166, rfl, ho0, hb⟩; refine ⟨_, rfl, ?_⟩; have n0_ := Aside0.mk (Kd.S_lower ho0 (below_size (by repeat (first | (with_reducible first | exact HB.out | apply below_alloc | apply pw_below_drewN | apply below_drew1) | exact HB.out)))); have n1_ := Aside0.mk (below_step (by repeat (first | (with_reducible first | exact HB.out | apply below_alloc | apply pw_below_drewN | apply below_drew1) | exact HB.out)) hb); clear HB; have HO167 := n0_; have HB := n1_; clear n0_ n1_; (try clear hb); (try clear hb2); (try clear hk); (try clear hi); (try clear ho0)) | ((with_reducible refine gate_callee (f := 14) rfl ?_); refine goesL_ (some 25) rfl rfl Tryd.func14 (by kernel_rfl) rfl #[.string a1] rfl (by (try simp only [List.map_toArray, List.map_cons, List.map_nil]); first | done | rfl | (simp only [List.length_drop, List.length_take]; rfl)) ?_; (with_reducible refine (lex_Scan.calls k a1 t168 t169 t170 _ ?side1 A6.out).mono ?_); (case side1 => first | exact hG | exact hG.drewN _ | exact hG.drew | exact hG.below (by repeat (first | (with_reducible first | exact HB.out | apply below_alloc | apply pw_below_drewN | apply below_drew1) | exact HB.out)) | (refine hG.below ?_; (repeat (first | (with_reducible exact Below.refl _ _) | (with_reducible refine pw_below_drewN ?_ _) | (with_reducible refine below_drew ?_) | (with_reducible refine below_alloc ?_ _))))); rintro e w10 ⟨v171, rfl, ho0, hb⟩; refine ⟨_, rfl, ?_⟩; have n0_ := Aside0.mk (Kd.S_elder' (by (with_reducible repeat (first | apply Kd.S_alloc | apply Kd.S_drewN | apply Kd.S_drew)); exact HO167.out) (Kd.S_base ho0) hb); have n1_ := Aside0.mk (Kd.S_lower (Kd.S_new' ho0 (Kd.S_lt (by (with_reducible repeat (first | apply Kd.S_alloc | apply Kd.S_drewN | apply Kd.S_drew)); exact HO167.out))) (below_size (by repeat (first | (with_reducible first | exact HB.out | apply below_alloc | apply pw_below_drewN | apply below_drew1) | exact HB.out)))); have n2_ := Aside0.mk (below_step (by repeat (first | (with_reducible first | exact HB.out | apply below_alloc | apply pw_below_drewN | apply below_drew1) | exact HB.out)) hb); clear HO167; clear HB; have HO167 := n0_; have HO172 := n1_; have HB := n2_; clear n0_ n1_ n2_; (try clear hb); (try clear hb2); (try clear hk); (try clear hi); (try clear ho0)))
  (try simp only [Act.put, q_row, q_zero, q_succ])
  go_cut [51] (fun v51 wc => ∃ (kq : Nat) (x51_6 : Bool), v51 = .bool x51_6 ∧ Aside0 (rookerylaw15_LexJoins.j0 kq a0 a1 t163 t168 x51_6 = some r) ∧ Aside0 (kq ≤ k) ∧ Aside0 (Kd.S k33 33 wc w.heap.size (fun k_ => some k_ ≠ (v171 : Value).ownBlock) v166 t163) ∧ Aside0 (Kd.S k33 33 wc w.heap.size (fun k_ => some k_ ≠ (v166 : Value).ownBlock) v171 t168) ∧ Aside0 (Below w.heap.size w wc))
  case first =>
   have H := HC7.out
   clear HC7
   by_cases c11 : t165 = 0
   ·
    rw [if_pos c11] at H
    have c11b0 : (t165 == 0) = true := beq_iff_eq.mpr c11
    have c11b1 : (t165 != 0) = false := bne_eq_false_iff_eq.mpr c11
    clear c11
    (first | rw [c11b0] | (simp only [i64_w, i32_w]; rw [c11b0]) | skip)
    by_cases c12 : t170 = 0
    ·
     rw [if_pos c12] at H
     have c12b0 : (t170 == 0) = true := beq_iff_eq.mpr c12
     have c12b1 : (t170 != 0) = false := bne_eq_false_iff_eq.mpr c12
     clear c12
     by_cases c13 : (wrap64 ((wrap64 ((a0.size : Int) + (a1.size : Int))) + 1)) > 16384
     ·
      rw [if_pos c13] at H
      have c13b0 : decide (16384 < (wrap64 ((wrap64 ((a0.size : Int) + (a1.size : Int))) + 1))) = true := decide_eq_true c13
      clear c13
      have H' := Aside0.mk H
      clear H
      go_wp2
      go_meet
      case rel => exact ⟨_, (true), (by first | rfl | (simp; done) | (simp [*]; done)), H', ⟨by first | omega | exact Nat.le_refl _⟩, ⟨by (with_reducible repeat (first | apply Kd.S_alloc | apply Kd.S_drewN | apply Kd.S_drew)); exact Kd.S_mono HO167.out (fun _ hk => hk.2)⟩, ⟨by (with_reducible repeat (first | apply Kd.S_alloc | apply Kd.S_drewN | apply Kd.S_drew)); exact Kd.S_mono HO172.out (fun _ hk => hk.2)⟩, ⟨by repeat (first | (with_reducible first | exact HB.out | apply below_alloc | apply pw_below_drewN | apply below_drew1) | exact HB.out)⟩⟩
     ·
      rw [if_neg c13] at H
      have c13b0 : decide (16384 < (wrap64 ((wrap64 ((a0.size : Int) + (a1.size : Int))) + 1))) = false := decide_eq_false c13
      clear c13
      have H' := Aside0.mk H
      clear H
      obtain ⟨Ao14, co14, eo14⟩ := Kd.S_slice HO167.out
      subst eo14
      obtain ⟨Ao15, co15, eo15⟩ := Kd.S_slice HO172.out
      subst eo15
      go_wp2
      go_meet
      case rel => exact ⟨_, (decide ((wrap64 ((t163.length : Int) + (t168.length : Int))) > 4000)), (by first | rfl | (simp; done) | (simp [*]; done)), H', ⟨by first | omega | exact Nat.le_refl _⟩, ⟨by (with_reducible repeat (first | apply Kd.S_alloc | apply Kd.S_drewN | apply Kd.S_drew)); exact Kd.S_mono HO167.out (fun _ hk => hk.2)⟩, ⟨by (with_reducible repeat (first | apply Kd.S_alloc | apply Kd.S_drewN | apply Kd.S_drew)); exact Kd.S_mono HO172.out (fun _ hk => hk.2)⟩, ⟨by repeat (first | (with_reducible first | exact HB.out | apply below_alloc | apply pw_below_drewN | apply below_drew1) | exact HB.out)⟩⟩
    ·
     rw [if_neg c12] at H
     have c12b0 : (t170 == 0) = false := beq_eq_false_iff_ne.mpr c12
     have c12b1 : (t170 != 0) = true := bne_iff_ne.mpr c12
     have H' := Aside0.mk H
     clear H
     go_wp2
     go_meet
     case rel => exact ⟨_, (true), (by first | rfl | (simp; done) | (simp [*]; done)), H', ⟨by first | omega | exact Nat.le_refl _⟩, ⟨by (with_reducible repeat (first | apply Kd.S_alloc | apply Kd.S_drewN | apply Kd.S_drew)); exact Kd.S_mono HO167.out (fun _ hk => hk.2)⟩, ⟨by (with_reducible repeat (first | apply Kd.S_alloc | apply Kd.S_drewN | apply Kd.S_drew)); exact Kd.S_mono HO172.out (fun _ hk => hk.2)⟩, ⟨by repeat (first | (with_reducible first | exact HB.out | apply below_alloc | apply pw_below_drewN | apply below_drew1) | exact HB.out)⟩⟩
   ·
    rw [if_neg c11] at H
    have c11b0 : (t165 == 0) = false := beq_eq_false_iff_ne.mpr c11
    have c11b1 : (t165 != 0) = true := bne_iff_ne.mpr c11
    (first | rw [c11b0] | (simp only [i64_w, i32_w]; rw [c11b0]) | skip)
    have H' := Aside0.mk H
    clear H
    go_wp2
    go_meet
    case rel => exact ⟨_, (true), (by first | rfl | (simp; done) | (simp [*]; done)), H', ⟨by first | omega | exact Nat.le_refl _⟩, ⟨by (with_reducible repeat (first | apply Kd.S_alloc | apply Kd.S_drewN | apply Kd.S_drew)); exact Kd.S_mono HO167.out (fun _ hk => hk.2)⟩, ⟨by (with_reducible repeat (first | apply Kd.S_alloc | apply Kd.S_drewN | apply Kd.S_drew)); exact Kd.S_mono HO172.out (fun _ hk => hk.2)⟩, ⟨by repeat (first | (with_reducible first | exact HB.out | apply below_alloc | apply pw_below_drewN | apply below_drew1) | exact HB.out)⟩⟩
  case rest =>
   clear HC7
   try clear c1
   try clear p2
   try clear c4
   try clear p6
   try clear c7
   try clear c11
   try clear c11b0
   try clear c11b1
   try clear c12
   try clear c12b0
   try clear c12b1
   try clear c13
   try clear c13b0
   try clear c14
   obtain ⟨kq, x51_6, rfl, HA, HJ6, HO_5, HO_8, HB⟩ := hcut
   cases kq with
   | zero => exact absurd HA.out (by simp [rookerylaw15_LexJoins.j0])
   | succ kj6 =>
    have H := HA.out
    clear HA
    simp only [rookerylaw15_LexJoins.j0] at H
    by_cases c16 : x51_6 = true
    ·
     subst c16
     have H1 : (some true) = some r := by rw [if_pos rfl] at H; exact H
     clear H
     have H := H1
     clear H1
     obtain rfl := Option.some.inj H
     go_wp2
     go_ret
     exact ⟨by first | rfl | (simp [errW_none, errW_some] <;> rfl) | (simp [*, errW_none, errW_some] <;> rfl), by repeat (first | (with_reducible first | exact HB.out | apply below_alloc | apply pw_below_drewN | apply below_drew1) | exact HB.out)⟩
    ·
     replace c16 := Bool.eq_false_iff.mpr c16
     subst c16
     have H1 : (if a0.size + 1 ≤ 9223372036854775807 then (if (a0 ++ (⟨#[10]⟩ : ByteArray)).size + a1.size ≤ 9223372036854775807 then ((lex_Scan.f kj6 ((a0 ++ (⟨#[10]⟩ : ByteArray)) ++ a1)).bind fun bt173 => (if bt173.2.2 = 0 then (rookerylaw15_LexJoins.j1 kj6 a0 t163 t168 bt173.1 ((bt173.1.length : Int) != (wrap64 ((t163.length : Int) + (t168.length : Int))))) else (rookerylaw15_LexJoins.j1 kj6 a0 t163 t168 bt173.1 true))) else (none)) else (none)) = some r := by rw [if_neg (show ¬ (false = true) by decide)] at H; exact H
     clear H
     have H := H1
     clear H1
     by_cases c17 : a0.size + 1 ≤ 9223372036854775807
     ·
      rw [if_pos c17] at H
      have c17b0 := eq_true c17
      have c17b1 : decide (a0.size + 1 ≤ 9223372036854775807) = true := decide_eq_true c17
      try have c17b2 : (9223372036854775807 < a0.size + 1) = False := eq_false (Nat.not_lt.2 c17)
      by_cases c18 : (a0 ++ (⟨#[10]⟩ : ByteArray)).size + a1.size ≤ 9223372036854775807
      ·
       rw [if_pos c18] at H
       have c18b0 := eq_true c18
       have c18b1 : decide ((a0 ++ (⟨#[10]⟩ : ByteArray)).size + a1.size ≤ 9223372036854775807) = true := decide_eq_true c18
       try have c18b2 : (9223372036854775807 < (a0 ++ (⟨#[10]⟩ : ByteArray)).size + a1.size) = False := eq_false (Nat.not_lt.2 c18)
       replace H := Option.bind_eq_some_iff.mp H
       obtain ⟨⟨t173, t174, t175⟩, A190, H⟩ := H
       replace H : (if t175 = 0 then (rookerylaw15_LexJoins.j1 kj6 a0 t163 t168 t173 ((t173.length : Int) != (wrap64 ((t163.length : Int) + (t168.length : Int))))) else (rookerylaw15_LexJoins.j1 kj6 a0 t163 t168 t173 true)) = some r := H
       have A19 := Aside0.mk A190
       clear A190
       have HC20 := Aside0.mk H
       clear H
       go_upto_region 8 with (first | ((with_reducible refine gate_callee (f := 14) rfl ?_); refine goesL_ (some 57) rfl rfl Tryd.func14 (by kernel_rfl) rfl #[.string ((a0 ++ (⟨#[10]⟩ : ByteArray)) ++ a1)] rfl (by (try simp only [List.map_toArray, List.map_cons, List.map_nil]); first | done | rfl | (simp only [List.length_drop, List.length_take]; rfl)) ?_; (with_reducible refine (lex_Scan.calls kj6 ((a0 ++ (⟨#[10]⟩ : ByteArray)) ++ a1) t173 t174 t175 _ ?side1 A19.out).mono ?_); (case side1 => first | exact hG | exact hG.drewN _ | exact hG.drew | exact hG.below (by repeat (first | (with_reducible first | exact HB.out | apply below_alloc | apply pw_below_drewN | apply below_drew1) | exact HB.out)) | (refine hG.below ?_; (repeat (first | (with_reducible exact Below.refl _ _) | (with_reducible refine pw_below_drewN ?_ _) | (with_reducible refine below_drew ?_) | (with_reducible refine below_alloc ?_ _))))); rintro e w21 ⟨v176, rfl, ho0, hb⟩; refine ⟨_, rfl, ?_⟩; have n0_ := Aside0.mk (Kd.S_elder' (by (with_reducible repeat (first | apply Kd.S_alloc | apply Kd.S_drewN | apply Kd.S_drew)); exact HO_5.out) (Kd.S_base ho0) hb); have n1_ := Aside0.mk (Kd.S_elder' (by (with_reducible repeat (first | apply Kd.S_alloc | apply Kd.S_drewN | apply Kd.S_drew)); exact HO_8.out) (Kd.S_base ho0) hb); have n2_ := Aside0.mk (Kd.S_lower (Kd.S_new' (Kd.S_new' ho0 (Kd.S_lt (by (with_reducible repeat (first | apply Kd.S_alloc | apply Kd.S_drewN | apply Kd.S_drew)); exact HO_5.out))) (Kd.S_lt (by (with_reducible repeat (first | apply Kd.S_alloc | apply Kd.S_drewN | apply Kd.S_drew)); exact HO_8.out))) (below_size (by repeat (first | (with_reducible first | exact HB.out | apply below_alloc | apply pw_below_drewN | apply below_drew1) | exact HB.out)))); have n3_ := Aside0.mk (below_step (by repeat (first | (with_reducible first | exact HB.out | apply below_alloc | apply pw_below_drewN | apply below_drew1) | exact HB.out)) hb); clear HO_5; clear HO_8; clear HB; have HO_5 := n0_; have HO_8 := n1_; have HO177 := n2_; have HB := n3_; clear n0_ n1_ n2_ n3_; (try clear hb); (try clear hb2); (try clear hk); (try clear hi); (try clear ho0)))
       (try simp only [Act.put, q_row, q_zero, q_succ])
       go_cut [72] (fun v72 wc => ∃ (kq : Nat) (x72_19 : Bool), v72 = .bool x72_19 ∧ Aside0 (rookerylaw15_LexJoins.j1 kq a0 t163 t168 t173 x72_19 = some r) ∧ Aside0 (kq ≤ kj6) ∧ Aside0 (Kd.S k33 33 wc w.heap.size (fun k_ => some k_ ≠ (v171 : Value).ownBlock ∧ some k_ ≠ (v176 : Value).ownBlock) v166 t163) ∧ Aside0 (Kd.S k33 33 wc w.heap.size (fun k_ => some k_ ≠ (v166 : Value).ownBlock ∧ some k_ ≠ (v176 : Value).ownBlock) v171 t168) ∧ Aside0 (Kd.S k33 33 wc w.heap.size (fun k_ => some k_ ≠ (v166 : Value).ownBlock ∧ some k_ ≠ (v171 : Value).ownBlock) v176 t173) ∧ Aside0 (Below w.heap.size w wc))
       case first =>
        have H := HC20.out
        clear HC20
        by_cases c22 : t175 = 0
        ·
         rw [if_pos c22] at H
         have c22b0 : (t175 == 0) = true := beq_iff_eq.mpr c22
         have c22b1 : (t175 != 0) = false := bne_eq_false_iff_eq.mpr c22
         clear c22
         (first | rw [c22b0] | (simp only [i64_w, i32_w]; rw [c22b0]) | skip)
         have H' := Aside0.mk H
         clear H
         obtain ⟨Ao23, co23, eo23⟩ := Kd.S_slice HO177.out
         subst eo23
         obtain ⟨Ao24, co24, eo24⟩ := Kd.S_slice HO_5.out
         subst eo24
         obtain ⟨Ao25, co25, eo25⟩ := Kd.S_slice HO_8.out
         subst eo25
         go_wp2
         go_meet
         case rel => exact ⟨_, (((t173.length : Int) != (wrap64 ((t163.length : Int) + (t168.length : Int))))), (by first | rfl | (simp; done) | (simp [*]; done)), H', ⟨by have := HJ6.out; first | omega | exact Nat.le_refl _⟩, ⟨by (with_reducible repeat (first | apply Kd.S_alloc | apply Kd.S_drewN | apply Kd.S_drew)); exact HO_5.out⟩, ⟨by (with_reducible repeat (first | apply Kd.S_alloc | apply Kd.S_drewN | apply Kd.S_drew)); exact HO_8.out⟩, ⟨by (with_reducible repeat (first | apply Kd.S_alloc | apply Kd.S_drewN | apply Kd.S_drew)); exact Kd.S_mono HO177.out (fun _ hk => ⟨hk.1.2, hk.2⟩)⟩, ⟨by repeat (first | (with_reducible first | exact HB.out | apply below_alloc | apply pw_below_drewN | apply below_drew1) | exact HB.out)⟩⟩
        ·
         rw [if_neg c22] at H
         have c22b0 : (t175 == 0) = false := beq_eq_false_iff_ne.mpr c22
         have c22b1 : (t175 != 0) = true := bne_iff_ne.mpr c22
         (first | rw [c22b0] | (simp only [i64_w, i32_w]; rw [c22b0]) | skip)
         have H' := Aside0.mk H
         clear H
         go_wp2
         go_meet
         case rel => exact ⟨_, (true), (by first | rfl | (simp; done) | (simp [*]; done)), H', ⟨by have := HJ6.out; first | omega | exact Nat.le_refl _⟩, ⟨by (with_reducible repeat (first | apply Kd.S_alloc | apply Kd.S_drewN | apply Kd.S_drew)); exact HO_5.out⟩, ⟨by (with_reducible repeat (first | apply Kd.S_alloc | apply Kd.S_drewN | apply Kd.S_drew)); exact HO_8.out⟩, ⟨by (with_reducible repeat (first | apply Kd.S_alloc | apply Kd.S_drewN | apply Kd.S_drew)); exact Kd.S_mono HO177.out (fun _ hk => ⟨hk.1.2, hk.2⟩)⟩, ⟨by repeat (first | (with_reducible first | exact HB.out | apply below_alloc | apply pw_below_drewN | apply below_drew1) | exact HB.out)⟩⟩
       case rest =>
        clear HC20
        try clear c1
        try clear c2
        try clear p2
        try clear c4
        try clear p6
        try clear c7
        try clear c11
        try clear c11b0
        try clear c11b1
        try clear c12
        try clear c12b0
        try clear c12b1
        try clear c13
        try clear c13b0
        try clear c14
        try clear c16
        try clear c17
        try clear c17b0
        try clear c17b1
        try clear c17b2
        try clear c18
        try clear c18b0
        try clear c18b1
        try clear c18b2
        try clear c22
        try clear c22b0
        try clear c22b1
        try clear p2
        try clear p6
        obtain ⟨kq, x72_19, rfl, HA, HJ19, HO_5, HO_8, HO_11, HB⟩ := hcut
        cases kq with
        | zero => exact absurd HA.out (by simp [rookerylaw15_LexJoins.j1])
        | succ kj19 =>
         have H := HA.out
         clear HA
         simp only [rookerylaw15_LexJoins.j1] at H
         by_cases c26 : x72_19 = true
         ·
          subst c26
          have H1 : (some false) = some r := by rw [if_pos rfl] at H; exact H
          clear H
          have H := H1
          clear H1
          obtain rfl := Option.some.inj H
          go_wp2
          go_ret
          exact ⟨by first | rfl | (simp [errW_none, errW_some] <;> rfl) | (simp [*, errW_none, errW_some] <;> rfl), by repeat (first | (with_reducible first | exact HB.out | apply below_alloc | apply pw_below_drewN | apply below_drew1) | exact HB.out)⟩
         ·
          replace c26 := Bool.eq_false_iff.mpr c26
          subst c26
          have H1 : (rookerylaw15_LexJoins.l0 kj19 a0 t163 t168 t173 0) = some r := by rw [if_neg (show ¬ (false = true) by decide)] at H; exact H
          clear H
          have H := H1
          clear H1
          have H' := Aside0.mk H
          clear H
          go_wp2
          go_loopg [14] kj19 (fun kq v14 w' => ∃ (x14_3 : Int), v14 = .int .i64 x14_3 ∧ Aside0 (rookerylaw15_LexJoins.l0 kq a0 t163 t168 t173 x14_3 = some r) ∧ Aside0 (kq ≤ kj19) ∧ Aside0 (Kd.S k33 33 w' w.heap.size (fun k_ => some k_ ≠ (v171 : Value).ownBlock ∧ some k_ ≠ (v176 : Value).ownBlock) v166 t163) ∧ Aside0 (Kd.S k33 33 w' w.heap.size (fun k_ => some k_ ≠ (v166 : Value).ownBlock ∧ some k_ ≠ (v176 : Value).ownBlock) v171 t168) ∧ Aside0 (Kd.S k33 33 w' w.heap.size (fun k_ => some k_ ≠ (v166 : Value).ownBlock ∧ some k_ ≠ (v171 : Value).ownBlock) v176 t173) ∧ Aside0 (Below w.heap.size w w'))
          case atStart => exact ⟨(0), (by first | rfl | (simp; done) | (simp [*]; done)), H', ⟨Nat.le_refl _⟩, ⟨by (with_reducible repeat (first | apply Kd.S_alloc | apply Kd.S_drewN | apply Kd.S_drew)); exact HO_5.out⟩, ⟨by (with_reducible repeat (first | apply Kd.S_alloc | apply Kd.S_drewN | apply Kd.S_drew)); exact HO_8.out⟩, ⟨by (with_reducible repeat (first | apply Kd.S_alloc | apply Kd.S_drewN | apply Kd.S_drew)); exact HO_11.out⟩, ⟨by repeat (first | (with_reducible first | exact HB.out | apply below_alloc | apply pw_below_drewN | apply below_drew1) | exact HB.out)⟩⟩
          case round =>
           clear H'
           try clear c1
           try clear c2
           try clear p2
           try clear c4
           try clear p6
           try clear c7
           try clear c11
           try clear c11b0
           try clear c11b1
           try clear c12
           try clear c12b0
           try clear c12b1
           try clear c13
           try clear c13b0
           try clear c14
           try clear c16
           try clear c17
           try clear c17b0
           try clear c17b1
           try clear c17b2
           try clear c18
           try clear c18b0
           try clear c18b1
           try clear c18b2
           try clear c22
           try clear c22b0
           try clear c22b1
           try clear c26
           try clear p2
           try clear p6
           obtain ⟨x14_3, rfl, HA, HK3, HO_5, HO_8, HO_11, HB⟩ := hrel
           cases gk with
           | zero => exact absurd HA.out (by simp [rookerylaw15_LexJoins.l0])
           | succ k3 =>
            have H := HA.out
            clear HA
            simp only [rookerylaw15_LexJoins.l0] at H
            by_cases c27 : x14_3 < (t173.length : Int)
            ·
             rw [if_pos c27] at H
             have c27b0 : decide (x14_3 < (t173.length : Int)) = true := decide_eq_true c27
             clear c27
             have HC28 := Aside0.mk H
             clear H
             obtain ⟨Ao29, co29, eo29⟩ := Kd.S_slice HO_11.out
             subst eo29
             go_upto_region 13 with (fail)
             go_cut [107] (fun v107 wc => ∃ (kq : Nat) (x107_27 : Bool), v107 = .bool x107_27 ∧ Aside0 (rookerylaw15_LexJoins.j3 kq a0 t163 t168 t173 x14_3 x107_27 = some r) ∧ Aside0 (kq ≤ k3) ∧ Aside0 (Kd.S k33 33 wc w.heap.size (fun k_ => some k_ ≠ (v171 : Value).ownBlock ∧ some k_ ≠ ((.slice Ao29 t173.length co29) : Value).ownBlock) v166 t163) ∧ Aside0 (Kd.S k33 33 wc w.heap.size (fun k_ => some k_ ≠ (v166 : Value).ownBlock ∧ some k_ ≠ ((.slice Ao29 t173.length co29) : Value).ownBlock) v171 t168) ∧ Aside0 (Kd.S k33 33 wc w.heap.size (fun k_ => some k_ ≠ (v166 : Value).ownBlock ∧ some k_ ≠ (v171 : Value).ownBlock) (.slice Ao29 t173.length co29) t173) ∧ Aside0 (Below w.heap.size w wc))
             case first =>
              have H := HC28.out
              clear HC28
              by_cases c30 : x14_3 < (t163.length : Int)
              ·
               rw [if_pos c30] at H
               have c30b0 : decide (x14_3 < (t163.length : Int)) = true := decide_eq_true c30
               clear c30
               (first | rw [c30b0] | (simp only [i64_w, i32_w]; rw [c30b0]) | skip)
               by_cases c31 : 0 ≤ x14_3
               ·
                rw [if_pos c31] at H
                have c31b0 : decide (0 ≤ x14_3) = true := decide_eq_true c31
                clear c31
                replace H := Option.bind_eq_some_iff.mp H
                obtain ⟨t180, A320, H⟩ := H
                replace H : (if t180 = true then (rookerylaw15_LexJoins.j3 k3 a0 t163 t168 t173 x14_3 (((rd_T33 t173 x14_3).f4) != ((rd_T33 t163 x14_3).f4))) else (rookerylaw15_LexJoins.j3 k3 a0 t163 t168 t173 x14_3 true)) = some r := H
                have A32 := Aside0.mk A320
                clear A320
                by_cases c33 : t180 = true
                ·
                 subst c33
                 have H1 : (rookerylaw15_LexJoins.j3 k3 a0 t163 t168 t173 x14_3 (((rd_T33 t173 x14_3).f4) != ((rd_T33 t163 x14_3).f4))) = some r := by rw [if_pos rfl] at H; exact H
                 clear H
                 have H := H1
                 clear H1
                 have H' := Aside0.mk H
                 clear H
                 try go_wp2
                 have n0_ := Aside0.mk (Kd.S_drew HO_5.out)
                 have n1_ := Aside0.mk (Kd.S_drew HO_8.out)
                 have n2_ := Aside0.mk (Kd.S_drew HO_11.out)
                 have n3_ := Aside0.mk (below_drew1 HB.out)
                 clear HO_5
                 clear HO_8
                 clear HO_11
                 clear HB
                 have HO_5 := n0_
                 have HO_8 := n1_
                 have HO_11 := n2_
                 have HB := n3_
                 clear n0_ n1_ n2_ n3_
                 obtain ⟨Ao35, co35, eo35⟩ := Kd.S_slice HO_5.out
                 (first | subst eo35 | (injection eo35 with f1_ f2_ f3_; have f4_ := f1_.symm; have f5_ := f3_.symm; clear f1_ f2_ f3_; subst f4_; subst f5_))
                 have p178 : 0 ≤ (x14_3 : Int) := of_decide_eq_true (by first | (with_reducible assumption) | assumption)
                 have q178 : x14_3 < (t173.length : Int) := of_decide_eq_true (by first | (with_reducible assumption) | assumption)
                 obtain ⟨ad178, A178_3, c178_3, e178, hx178_0, hx178_1, hx178_2, hx178_3, hx178_4, hl178_3, hi178_3⟩ := at_T33 (Kd.S_reads' HO_11.out).2.2 x14_3 p178 q178
                 cases e178
                 obtain ⟨ce178, hce178, hMe178, hcc178⟩ := Kd.S_get HO_11.out z33 x14_3 p178 (by first | exact q178 | exact of_decide_eq_true (by first | (with_reducible assumption) | assumption) | (have e_ := (Kd.S_reads' HO_11.out).1; omega))
                 obtain ⟨ve178_3, rfl, ge178_3⟩ := k33_openM hMe178
                 have hv178_3 := hcc178 3 _ rfl
                 rw [add_field _ _ 3 (by omega)] at hv178_3
                 replace hv178_3 := Option.some.inj (hv178_3.symm.trans hx178_3)
                 rw [hv178_3] at ge178_3
                 have HL178_3 := Aside0.mk (show Kd.R (Kd.int .u8) 5 _ _ _ _ ((rd_T33 t173 x14_3).f3) from ge178_3)
                 clear hv178_3 ge178_3
                 clear hcc178 hce178
                 have HR178_3 := Aside0.mk hi178_3
                 have HC178_3 := Aside0.mk hl178_3
                 clear hi178_3 hl178_3
                 replace p178 := eq_true p178
                 replace q178 := eq_true q178
                 have p179 : 0 ≤ (x14_3 : Int) := of_decide_eq_true (by first | (with_reducible assumption) | assumption)
                 have q179 : x14_3 < (t163.length : Int) := of_decide_eq_true (by first | (with_reducible assumption) | assumption)
                 obtain ⟨ad179, A179_3, c179_3, e179, hx179_0, hx179_1, hx179_2, hx179_3, hx179_4, hl179_3, hi179_3⟩ := at_T33 (Kd.S_reads' HO_5.out).2.2 x14_3 p179 q179
                 cases e179
                 obtain ⟨ce179, hce179, hMe179, hcc179⟩ := Kd.S_get HO_5.out z33 x14_3 p179 (by first | exact q179 | exact of_decide_eq_true (by first | (with_reducible assumption) | assumption) | (have e_ := (Kd.S_reads' HO_5.out).1; omega))
                 obtain ⟨ve179_3, rfl, ge179_3⟩ := k33_openM hMe179
                 have hv179_3 := hcc179 3 _ rfl
                 rw [add_field _ _ 3 (by omega)] at hv179_3
                 replace hv179_3 := Option.some.inj (hv179_3.symm.trans hx179_3)
                 rw [hv179_3] at ge179_3
                 have HL179_3 := Aside0.mk (show Kd.R (Kd.int .u8) 5 _ _ _ _ ((rd_T33 t163 x14_3).f3) from ge179_3)
                 clear hv179_3 ge179_3
                 clear hcc179 hce179
                 have HR179_3 := Aside0.mk hi179_3
                 have HC179_3 := Aside0.mk hl179_3
                 clear hi179_3 hl179_3
                 replace p179 := eq_true p179
                 replace q179 := eq_true q179
                 have p181 : 0 ≤ (x14_3 : Int) := of_decide_eq_true (by first | (with_reducible assumption) | assumption)
                 have q181 : x14_3 < (t173.length : Int) := of_decide_eq_true (by first | (with_reducible assumption) | assumption)
                 obtain ⟨ad181, A181_3, c181_3, e181, hx181_0, hx181_1, hx181_2, hx181_3, hx181_4, hl181_3, hi181_3⟩ := at_T33 (Kd.S_reads' HO_11.out).2.2 x14_3 p181 q181
                 obtain rfl : ad178 = ad181 := (by injection e181)
                 obtain ⟨ce181, hce181, hMe181, hcc181⟩ := Kd.S_get HO_11.out z33 x14_3 p181 (by first | exact q181 | exact of_decide_eq_true (by first | (with_reducible assumption) | assumption) | (have e_ := (Kd.S_reads' HO_11.out).1; omega))
                 obtain ⟨ve181_3, rfl, ge181_3⟩ := k33_openM hMe181
                 have hv181_3 := hcc181 3 _ rfl
                 rw [add_field _ _ 3 (by omega)] at hv181_3
                 replace hv181_3 := Option.some.inj (hv181_3.symm.trans hx181_3)
                 rw [hv181_3] at ge181_3
                 have HL181_3 := Aside0.mk (show Kd.R (Kd.int .u8) 5 _ _ _ _ ((rd_T33 t173 x14_3).f3) from ge181_3)
                 clear hv181_3 ge181_3
                 clear hcc181 hce181
                 have HR181_3 := Aside0.mk hi181_3
                 have HC181_3 := Aside0.mk hl181_3
                 clear hi181_3 hl181_3
                 replace p181 := eq_true p181
                 replace q181 := eq_true q181
                 have p182 : 0 ≤ (x14_3 : Int) := of_decide_eq_true (by first | (with_reducible assumption) | assumption)
                 have q182 : x14_3 < (t163.length : Int) := of_decide_eq_true (by first | (with_reducible assumption) | assumption)
                 obtain ⟨ad182, A182_3, c182_3, e182, hx182_0, hx182_1, hx182_2, hx182_3, hx182_4, hl182_3, hi182_3⟩ := at_T33 (Kd.S_reads' HO_5.out).2.2 x14_3 p182 q182
                 obtain rfl : ad179 = ad182 := (by injection e182)
                 obtain ⟨ce182, hce182, hMe182, hcc182⟩ := Kd.S_get HO_5.out z33 x14_3 p182 (by first | exact q182 | exact of_decide_eq_true (by first | (with_reducible assumption) | assumption) | (have e_ := (Kd.S_reads' HO_5.out).1; omega))
                 obtain ⟨ve182_3, rfl, ge182_3⟩ := k33_openM hMe182
                 have hv182_3 := hcc182 3 _ rfl
                 rw [add_field _ _ 3 (by omega)] at hv182_3
                 replace hv182_3 := Option.some.inj (hv182_3.symm.trans hx182_3)
                 rw [hv182_3] at ge182_3
                 have HL182_3 := Aside0.mk (show Kd.R (Kd.int .u8) 5 _ _ _ _ ((rd_T33 t163 x14_3).f3) from ge182_3)
                 clear hv182_3 ge182_3
                 clear hcc182 hce182
                 have HR182_3 := Aside0.mk hi182_3
                 have HC182_3 := Aside0.mk hl182_3
                 clear hi182_3 hl182_3
                 replace p182 := eq_true p182
                 replace q182 := eq_true q182
                 refine start_ (n := 29) (S := fun w' => w'.cell? (ad178.add ((x14_3).toNat * 5)) = some (.int .i64 ((rd_T33 t173 x14_3).f0)) ∧ w'.cell? ⟨(ad178.add ((x14_3).toNat * 5)).block, (ad178.add ((x14_3).toNat * 5)).off + 1, none⟩ = some (.string ((rd_T33 t173 x14_3).f1)) ∧ w'.cell? ⟨(ad178.add ((x14_3).toNat * 5)).block, (ad178.add ((x14_3).toNat * 5)).off + 2, none⟩ = some (.int .i64 ((rd_T33 t173 x14_3).f2)) ∧ w'.cell? ⟨(ad178.add ((x14_3).toNat * 5)).block, (ad178.add ((x14_3).toNat * 5)).off + 3, none⟩ = some (.slice A178_3 ((rd_T33 t173 x14_3).f3).length c178_3) ∧ w'.cell? ⟨(ad178.add ((x14_3).toNat * 5)).block, (ad178.add ((x14_3).toNat * 5)).off + 4, none⟩ = some (.int .i64 ((rd_T33 t173 x14_3).f4)) ∧ w'.cell? (ad179.add ((x14_3).toNat * 5)) = some (.int .i64 ((rd_T33 t163 x14_3).f0)) ∧ w'.cell? ⟨(ad179.add ((x14_3).toNat * 5)).block, (ad179.add ((x14_3).toNat * 5)).off + 1, none⟩ = some (.string ((rd_T33 t163 x14_3).f1)) ∧ w'.cell? ⟨(ad179.add ((x14_3).toNat * 5)).block, (ad179.add ((x14_3).toNat * 5)).off + 2, none⟩ = some (.int .i64 ((rd_T33 t163 x14_3).f2)) ∧ w'.cell? ⟨(ad179.add ((x14_3).toNat * 5)).block, (ad179.add ((x14_3).toNat * 5)).off + 3, none⟩ = some (.slice A179_3 ((rd_T33 t163 x14_3).f3).length c179_3) ∧ w'.cell? ⟨(ad179.add ((x14_3).toNat * 5)).block, (ad179.add ((x14_3).toNat * 5)).off + 4, none⟩ = some (.int .i64 ((rd_T33 t163 x14_3).f4)) ∧ w'.cell? (ad178.add ((x14_3).toNat * 5)) = some (.int .i64 ((rd_T33 t173 x14_3).f0)) ∧ w'.cell? ⟨(ad178.add ((x14_3).toNat * 5)).block, (ad178.add ((x14_3).toNat * 5)).off + 1, none⟩ = some (.string ((rd_T33 t173 x14_3).f1)) ∧ w'.cell? ⟨(ad178.add ((x14_3).toNat * 5)).block, (ad178.add ((x14_3).toNat * 5)).off + 2, none⟩ = some (.int .i64 ((rd_T33 t173 x14_3).f2)) ∧ w'.cell? ⟨(ad178.add ((x14_3).toNat * 5)).block, (ad178.add ((x14_3).toNat * 5)).off + 3, none⟩ = some (.slice A181_3 ((rd_T33 t173 x14_3).f3).length c181_3) ∧ w'.cell? ⟨(ad178.add ((x14_3).toNat * 5)).block, (ad178.add ((x14_3).toNat * 5)).off + 4, none⟩ = some (.int .i64 ((rd_T33 t173 x14_3).f4)) ∧ w'.cell? (ad179.add ((x14_3).toNat * 5)) = some (.int .i64 ((rd_T33 t163 x14_3).f0)) ∧ w'.cell? ⟨(ad179.add ((x14_3).toNat * 5)).block, (ad179.add ((x14_3).toNat * 5)).off + 1, none⟩ = some (.string ((rd_T33 t163 x14_3).f1)) ∧ w'.cell? ⟨(ad179.add ((x14_3).toNat * 5)).block, (ad179.add ((x14_3).toNat * 5)).off + 2, none⟩ = some (.int .i64 ((rd_T33 t163 x14_3).f2)) ∧ w'.cell? ⟨(ad179.add ((x14_3).toNat * 5)).block, (ad179.add ((x14_3).toNat * 5)).off + 3, none⟩ = some (.slice A182_3 ((rd_T33 t163 x14_3).f3).length c182_3) ∧ w'.cell? ⟨(ad179.add ((x14_3).toNat * 5)).block, (ad179.add ((x14_3).toNat * 5)).off + 4, none⟩ = some (.int .i64 ((rd_T33 t163 x14_3).f4))) (ds := []) #[false, false, false, false, false, false, false, false, false, false, false, false, false, false, false, false, false, false, false, false, false, false, false, false, false, false, false, false, false] (by kernel_rfl) rfl rfl ⟨hx178_0, hx178_1, hx178_2, hx178_3, hx178_4, hx179_0, hx179_1, hx179_2, hx179_3, hx179_4, hx181_0, hx181_1, hx181_2, hx181_3, hx181_4, hx182_0, hx182_1, hx182_2, hx182_3, hx182_4⟩ (fun hHeld => ?_); refine with_tabW rookerylaw15_LexJoins.tab13 rookerylaw15_LexJoins.bits13 (fun HT_ HW_ => ?_)
                 generalize wr.drew = w34 at HO_5 HO_8 HO_11 HB HL178_3 HL179_3 HL181_3 HL182_3 HR178_3 HR179_3 HR181_3 HR182_3 hx178_0 hx178_1 hx178_2 hx178_3 hx178_4 hx179_0 hx179_1 hx179_2 hx179_3 hx179_4 hx181_0 hx181_1 hx181_2 hx181_3 hx181_4 hx182_0 hx182_1 hx182_2 hx182_3 hx182_4 hHeld ⊢
                 refine pure_ (i := 0) (N := some 79) (v := ?_) (a' := ?_) #[true, false, false, false, false, false, false, false, false, false, false, false, false, false, false, false, false, false, false, false, false, false, false, false, false, false, false, false, false] rfl rfl (any_of HT_.out (by kernel_rfl)) (fun _ _ _ h => h) (Or.inl ⟨by rfl, ?_⟩) ?_ ?_
                 rotate_left
                 · intro w'; go_simp; with_reducible rfl
                 rotate_left
                 ·
                  simp only [Act.put, q_row, q_zero, q_succ, i64_w, i32_w]
                  rfl
                 refine pure_ (i := 1) (N := some 80) (v := ?_) (a' := ?_) #[true, true, false, false, false, false, false, false, false, false, false, false, false, false, false, false, false, false, false, false, false, false, false, false, false, false, false, false, false] rfl rfl (any_of HT_.out (by kernel_rfl)) (fun _ _ _ h => h) (Or.inl ⟨by rfl, ?_⟩) ?_ ?_
                 rotate_left
                 · intro w'; go_simp; with_reducible rfl
                 rotate_left
                 ·
                  simp only [Act.put, q_row, q_zero, q_succ, i64_w, i32_w]
                  rfl
                 refine pure_ (i := 2) (N := some 81) (v := ?_) (a' := ?_) #[true, true, true, false, false, false, false, false, false, false, false, false, false, false, false, false, false, false, false, false, false, false, false, false, false, false, false, false, false] rfl rfl (any_of HT_.out (by kernel_rfl)) (fun _ _ _ h => h) (Or.inl ⟨by rfl, ?_⟩) ?_ ?_
                 rotate_left
                 · intro w'; go_simp; with_reducible rfl
                 rotate_left
                 ·
                  simp only [Act.put, q_row, q_zero, q_succ, i64_w, i32_w]
                  rfl
                 refine pure_ (i := 3) (N := some 82) (v := ?_) (a' := ?_) #[true, true, true, true, false, false, false, false, false, false, false, false, false, false, false, false, false, false, false, false, false, false, false, false, false, false, false, false, false] rfl rfl (any_of HT_.out (by kernel_rfl)) (fun _ _ _ h => h) (Or.inl ⟨by rfl, ?_⟩) ?_ ?_
                 rotate_left
                 · intro w'; go_simp; with_reducible rfl
                 rotate_left
                 ·
                  simp only [Act.put, q_row, q_zero, q_succ, i64_w, i32_w]
                  rfl
                 refine pure_ (i := 4) (N := some 83) (v := ?_) (a' := ?_) #[true, true, true, true, true, false, false, false, false, false, false, false, false, false, false, false, false, false, false, false, false, false, false, false, false, false, false, false, false] rfl rfl (any_of HT_.out (by kernel_rfl)) (fun _ _ _ h => h) (Or.inl ⟨by rfl, ?_⟩) ?_ ?_
                 rotate_left
                 · intro w'; go_simp; with_reducible rfl
                 rotate_left
                 ·
                  simp only [Act.put, q_row, q_zero, q_succ, i64_w, i32_w]
                  rfl
                 refine pure_ (i := 5) (N := some 84) (v := ?_) (a' := ?_) #[true, true, true, true, true, true, false, false, false, false, false, false, false, false, false, false, false, false, false, false, false, false, false, false, false, false, false, false, false] rfl rfl (any_of HT_.out (by kernel_rfl)) (fun _ _ _ h => h) (Or.inl ⟨by rfl, ?_⟩) ?_ ?_
                 rotate_left
                 · intro w'; go_simp; with_reducible rfl
                 rotate_left
                 ·
                  simp only [Act.put, q_row, q_zero, q_succ, i64_w, i32_w]
                  rfl
                 refine pure_ (i := 6) (N := some 85) (v := ?_) (a' := ?_) #[true, true, true, true, true, true, true, false, false, false, false, false, false, false, false, false, false, false, false, false, false, false, false, false, false, false, false, false, false] rfl rfl (any_of HT_.out (by kernel_rfl)) (fun _ _ _ h => h) (Or.inl ⟨by rfl, ?_⟩) ?_ ?_
                 rotate_left
                 · intro w'; go_simp; with_reducible rfl
                 rotate_left
                 ·
                  simp only [Act.put, q_row, q_zero, q_succ, i64_w, i32_w]
                  rfl
                 refine pure_ (i := 7) (N := some 86) (v := ?_) (a' := ?_) #[true, true, true, true, true, true, true, true, false, false, false, false, false, false, false, false, false, false, false, false, false, false, false, false, false, false, false, false, false] rfl rfl (any_of HT_.out (by kernel_rfl)) (fun _ _ _ h => h) (Or.inl ⟨by rfl, ?_⟩) ?_ ?_
                 rotate_left
                 · intro w'; go_simp; with_reducible rfl
                 rotate_left
                 ·
                  simp only [Act.put, q_row, q_zero, q_succ, i64_w, i32_w]
                  rfl
                 refine pure_ (i := 9) (N := some 88) (v := ?_) (a' := ?_) #[true, true, true, true, true, true, true, true, false, true, false, false, false, false, false, false, false, false, false, false, false, false, false, false, false, false, false, false, false] rfl rfl (any_of HT_.out (by kernel_rfl)) (fun _ _ _ h => h) (Or.inl ⟨by rfl, ?_⟩) ?_ ?_
                 rotate_left
                 · intro w'; go_simp; with_reducible rfl
                 rotate_left
                 ·
                  simp only [Act.put, q_row, q_zero, q_succ, i64_w, i32_w]
                  rfl
                 refine pure_ (i := 10) (N := some 89) (v := ?_) (a' := ?_) #[true, true, true, true, true, true, true, true, false, true, true, false, false, false, false, false, false, false, false, false, false, false, false, false, false, false, false, false, false] rfl rfl (any_of HT_.out (by kernel_rfl)) (fun _ _ _ h => h) (Or.inl ⟨by rfl, ?_⟩) ?_ ?_
                 rotate_left
                 · intro w'; go_simp; with_reducible rfl
                 rotate_left
                 ·
                  simp only [Act.put, q_row, q_zero, q_succ, i64_w, i32_w]
                  rfl
                 refine pure_ (i := 11) (N := some 90) (v := ?_) (a' := ?_) #[true, true, true, true, true, true, true, true, false, true, true, true, false, false, false, false, false, false, false, false, false, false, false, false, false, false, false, false, false] rfl rfl (any_of HT_.out (by kernel_rfl)) (fun _ _ _ h => h) (Or.inl ⟨by rfl, ?_⟩) ?_ ?_
                 rotate_left
                 · intro w'; go_simp; with_reducible rfl
                 rotate_left
                 ·
                  simp only [Act.put, q_row, q_zero, q_succ, i64_w, i32_w]
                  rfl
                 refine take_ (i := 8) (N := some 87) (v := ?_) (a' := ?_) #[true, true, true, true, true, true, true, true, true, true, true, true, false, false, false, false, false, false, false, false, false, false, false, false, false, false, false, false, false] rfl rfl (take_ofW HT_.out HW_.out (by kernel_rfl)) (fun _ _ _ h => h) (Or.inl ⟨by rfl, ?_⟩) hHeld ?_ ?_
                 rotate_left
                 ·
                  rintro w' ⟨s0, s1, s2, s3, s4, s5, s6, s7, s8, s9, s10, s11, s12, s13, s14, s15, s16, s17, s18, s19⟩
                  go_simp
                  with_reducible rfl
                 rotate_left
                 ·
                  simp only [Act.put, q_row, q_zero, q_succ, i64_w, i32_w]
                  rfl
                 refine take_ (i := 12) (N := some 91) (v := ?_) (a' := ?_) #[true, true, true, true, true, true, true, true, true, true, true, true, true, false, false, false, false, false, false, false, false, false, false, false, false, false, false, false, false] rfl rfl (take_ofW HT_.out HW_.out (by kernel_rfl)) (fun _ _ _ h => h) (Or.inl ⟨by rfl, ?_⟩) hHeld ?_ ?_
                 rotate_left
                 ·
                  rintro w' ⟨s0, s1, s2, s3, s4, s5, s6, s7, s8, s9, s10, s11, s12, s13, s14, s15, s16, s17, s18, s19⟩
                  go_simp
                  with_reducible rfl
                 rotate_left
                 ·
                  simp only [Act.put, q_row, q_zero, q_succ, i64_w, i32_w]
                  rfl
                 refine one_ (i := 13) (N := some 92) #[true, true, true, true, true, true, true, true, true, true, true, true, true, true, false, false, false, false, false, false, false, false, false, false, false, false, false, false, false] rfl rfl (one_of HT_.out (by kernel_rfl)) (by decide) (fun K hK => ?_)
                 refine goes_ Tryd.func21 (by kernel_rfl) rfl #[.agg #[.int .i64 ((rd_T33 t173 x14_3).f0), .string ((rd_T33 t173 x14_3).f1), .int .i64 ((rd_T33 t173 x14_3).f2), .slice A178_3 ((rd_T33 t173 x14_3).f3).length c178_3, .int .i64 ((rd_T33 t173 x14_3).f4)], .agg #[.int .i64 ((rd_T33 t163 x14_3).f0), .string ((rd_T33 t163 x14_3).f1), .int .i64 ((rd_T33 t163 x14_3).f2), .slice A179_3 ((rd_T33 t163 x14_3).f3).length c179_3, .int .i64 ((rd_T33 t163 x14_3).f4)]] (by rfl) rfl rfl (by (try simp only [List.map_toArray, List.map_cons, List.map_nil]); first | done | rfl | (simp only [List.length_drop, List.length_take]; rfl)) ?_
                 with_reducible refine (rookeryref15_Same.calls ((rd_T33 t173 x14_3).f0) ((rd_T33 t173 x14_3).f1) ((rd_T33 t173 x14_3).f2) _ _ ((rd_T33 t173 x14_3).f3) ((rd_T33 t173 x14_3).f4) ((rd_T33 t163 x14_3).f0) ((rd_T33 t163 x14_3).f1) ((rd_T33 t163 x14_3).f2) _ _ ((rd_T33 t163 x14_3).f3) ((rd_T33 t163 x14_3).f4) true _ ?side1 ?side2 ?side3 ?side4 A32.out).mono ?_
                 (case side1 => repeat (first | exact (by repeat (first | (with_reducible exact HR178_3.out) | (with_reducible refine Kd.C_alloc ?_ _) | (with_reducible refine Kd.C_drewN ?_ _) | (with_reducible refine Kd.C_drew ?_) | exact HR178_3.out)) | (with_reducible refine Kd.C_alloc ?_ _) | (with_reducible refine Kd.C_drewN ?_ _) | (with_reducible refine Kd.C_drew ?_)))
                 (case side2 => exact HC178_3.out)
                 (case side3 => repeat (first | exact (by repeat (first | (with_reducible exact HR179_3.out) | (with_reducible refine Kd.C_alloc ?_ _) | (with_reducible refine Kd.C_drewN ?_ _) | (with_reducible refine Kd.C_drew ?_) | exact HR179_3.out)) | (with_reducible refine Kd.C_alloc ?_ _) | (with_reducible refine Kd.C_drewN ?_ _) | (with_reducible refine Kd.C_drew ?_)))
                 (case side4 => exact HC179_3.out)
                 rintro e w36 ⟨rfl, hb⟩
                 have HS0_ := (hb.cell (World.block_lt_of_cell? _ _ (hHeld.1))).trans (hHeld.1)
                 have HS1_ := (hb.cell (World.block_lt_of_cell? _ _ (hHeld.2.1))).trans (hHeld.2.1)
                 have HS2_ := (hb.cell (World.block_lt_of_cell? _ _ (hHeld.2.2.1))).trans (hHeld.2.2.1)
                 have HS3_ := (hb.cell (World.block_lt_of_cell? _ _ (hHeld.2.2.2.1))).trans (hHeld.2.2.2.1)
                 have HS4_ := (hb.cell (World.block_lt_of_cell? _ _ (hHeld.2.2.2.2.1))).trans (hHeld.2.2.2.2.1)
                 have HS5_ := (hb.cell (World.block_lt_of_cell? _ _ (hHeld.2.2.2.2.2.1))).trans (hHeld.2.2.2.2.2.1)
                 have HS6_ := (hb.cell (World.block_lt_of_cell? _ _ (hHeld.2.2.2.2.2.2.1))).trans (hHeld.2.2.2.2.2.2.1)
                 have HS7_ := (hb.cell (World.block_lt_of_cell? _ _ (hHeld.2.2.2.2.2.2.2.1))).trans (hHeld.2.2.2.2.2.2.2.1)
                 have HS8_ := (hb.cell (World.block_lt_of_cell? _ _ (hHeld.2.2.2.2.2.2.2.2.1))).trans (hHeld.2.2.2.2.2.2.2.2.1)
                 have HS9_ := (hb.cell (World.block_lt_of_cell? _ _ (hHeld.2.2.2.2.2.2.2.2.2.1))).trans (hHeld.2.2.2.2.2.2.2.2.2.1)
                 have HS10_ := (hb.cell (World.block_lt_of_cell? _ _ (hHeld.2.2.2.2.2.2.2.2.2.2.1))).trans (hHeld.2.2.2.2.2.2.2.2.2.2.1)
                 have HS11_ := (hb.cell (World.block_lt_of_cell? _ _ (hHeld.2.2.2.2.2.2.2.2.2.2.2.1))).trans (hHeld.2.2.2.2.2.2.2.2.2.2.2.1)
                 have HS12_ := (hb.cell (World.block_lt_of_cell? _ _ (hHeld.2.2.2.2.2.2.2.2.2.2.2.2.1))).trans (hHeld.2.2.2.2.2.2.2.2.2.2.2.2.1)
                 have HS13_ := (hb.cell (World.block_lt_of_cell? _ _ (hHeld.2.2.2.2.2.2.2.2.2.2.2.2.2.1))).trans (hHeld.2.2.2.2.2.2.2.2.2.2.2.2.2.1)
                 have HS14_ := (hb.cell (World.block_lt_of_cell? _ _ (hHeld.2.2.2.2.2.2.2.2.2.2.2.2.2.2.1))).trans (hHeld.2.2.2.2.2.2.2.2.2.2.2.2.2.2.1)
                 have HS15_ := (hb.cell (World.block_lt_of_cell? _ _ (hHeld.2.2.2.2.2.2.2.2.2.2.2.2.2.2.2.1))).trans (hHeld.2.2.2.2.2.2.2.2.2.2.2.2.2.2.2.1)
                 have HS16_ := (hb.cell (World.block_lt_of_cell? _ _ (hHeld.2.2.2.2.2.2.2.2.2.2.2.2.2.2.2.2.1))).trans (hHeld.2.2.2.2.2.2.2.2.2.2.2.2.2.2.2.2.1)
                 have HS17_ := (hb.cell (World.block_lt_of_cell? _ _ (hHeld.2.2.2.2.2.2.2.2.2.2.2.2.2.2.2.2.2.1))).trans (hHeld.2.2.2.2.2.2.2.2.2.2.2.2.2.2.2.2.2.1)
                 have HS18_ := (hb.cell (World.block_lt_of_cell? _ _ (hHeld.2.2.2.2.2.2.2.2.2.2.2.2.2.2.2.2.2.2.1))).trans (hHeld.2.2.2.2.2.2.2.2.2.2.2.2.2.2.2.2.2.2.1)
                 have HS19_ := (hb.cell (World.block_lt_of_cell? _ _ (hHeld.2.2.2.2.2.2.2.2.2.2.2.2.2.2.2.2.2.2.2))).trans (hHeld.2.2.2.2.2.2.2.2.2.2.2.2.2.2.2.2.2.2.2)
                 refine ⟨_, rfl, ?_⟩
                 have n0_ := Aside0.mk (Kd.S_below (by (with_reducible repeat (first | apply Kd.S_alloc | apply Kd.S_drewN | apply Kd.S_drew)); exact HO_5.out) hb)
                 have n1_ := Aside0.mk (Kd.S_below (by (with_reducible repeat (first | apply Kd.S_alloc | apply Kd.S_drewN | apply Kd.S_drew)); exact HO_8.out) hb)
                 have n2_ := Aside0.mk (Kd.S_below (by (with_reducible repeat (first | apply Kd.S_alloc | apply Kd.S_drewN | apply Kd.S_drew)); exact HO_11.out) hb)
                 have n3_ := Aside0.mk (Kd.R_below (by (with_reducible repeat (first | apply Kd.R_alloc | apply Kd.R_drewN | apply Kd.R_drew)); exact HL178_3.out) hb)
                 have n4_ := Aside0.mk (Kd.R_below (by (with_reducible repeat (first | apply Kd.R_alloc | apply Kd.R_drewN | apply Kd.R_drew)); exact HL179_3.out) hb)
                 have n5_ := Aside0.mk (Kd.C_below (by repeat (first | (with_reducible exact HR178_3.out) | (with_reducible refine Kd.C_alloc ?_ _) | (with_reducible refine Kd.C_drewN ?_ _) | (with_reducible refine Kd.C_drew ?_) | exact HR178_3.out)) hb)
                 have n6_ := Aside0.mk (Kd.C_below (by repeat (first | (with_reducible exact HR179_3.out) | (with_reducible refine Kd.C_alloc ?_ _) | (with_reducible refine Kd.C_drewN ?_ _) | (with_reducible refine Kd.C_drew ?_) | exact HR179_3.out)) hb)
                 have n7_ := Aside0.mk (below_step (by repeat (first | (with_reducible first | exact HB.out | apply below_alloc | apply pw_below_drewN | apply below_drew1) | exact HB.out)) hb)
                 clear HO_5
                 clear HO_8
                 clear HO_11
                 clear HL178_3
                 clear HL179_3
                 clear HR178_3
                 clear HR179_3
                 clear HB
                 have HO_5 := n0_
                 have HO_8 := n1_
                 have HO_11 := n2_
                 have HL178_3 := n3_
                 have HL179_3 := n4_
                 have HR178_3 := n5_
                 have HR179_3 := n6_
                 have HB := n7_
                 clear n0_ n1_ n2_ n3_ n4_ n5_ n6_ n7_
                 (try clear hb)
                 (try clear hb2)
                 (try clear hk)
                 (try clear hi)
                 refine hK.out _ _ ⟨HS0_, HS1_, HS2_, HS3_, HS4_, HS5_, HS6_, HS7_, HS8_, HS9_, HS10_, HS11_, HS12_, HS13_, HS14_, HS15_, HS16_, HS17_, HS18_, HS19_⟩ (fun hHeld => ?_)
                 clear hK K
                 refine norm_ (a' := ?_) ?_ ?_
                 rotate_left
                 ·
                  show Act.put _ (some 92) _ = _
                  simp only [Act.put, q_row, q_zero, q_succ, i64_w, i32_w]
                  rfl
                 refine pure_ (i := 14) (N := some 93) (v := ?_) (a' := ?_) #[true, true, true, true, true, true, true, true, true, true, true, true, true, true, true, false, false, false, false, false, false, false, false, false, false, false, false, false, false] rfl rfl (any_of HT_.out (by kernel_rfl)) (fun _ _ _ h => h) (Or.inl ⟨by rfl, ?_⟩) ?_ ?_
                 rotate_left
                 · intro w'; go_simp; with_reducible rfl
                 rotate_left
                 ·
                  simp only [Act.put, q_row, q_zero, q_succ, i64_w, i32_w]
                  rfl
                 refine pure_ (i := 15) (N := some 94) (v := ?_) (a' := ?_) #[true, true, true, true, true, true, true, true, true, true, true, true, true, true, true, true, false, false, false, false, false, false, false, false, false, false, false, false, false] rfl rfl (any_of HT_.out (by kernel_rfl)) (fun _ _ _ h => h) (Or.inl ⟨by rfl, ?_⟩) ?_ ?_
                 rotate_left
                 · intro w'; go_simp; with_reducible rfl
                 rotate_left
                 ·
                  simp only [Act.put, q_row, q_zero, q_succ, i64_w, i32_w]
                  rfl
                 refine pure_ (i := 16) (N := some 95) (v := ?_) (a' := ?_) #[true, true, true, true, true, true, true, true, true, true, true, true, true, true, true, true, true, false, false, false, false, false, false, false, false, false, false, false, false] rfl rfl (any_of HT_.out (by kernel_rfl)) (fun _ _ _ h => h) (Or.inl ⟨by rfl, ?_⟩) ?_ ?_
                 rotate_left
                 · intro w'; go_simp; with_reducible rfl
                 rotate_left
                 ·
                  simp only [Act.put, q_row, q_zero, q_succ, i64_w, i32_w]
                  rfl
                 refine pure_ (i := 17) (N := some 96) (v := ?_) (a' := ?_) #[true, true, true, true, true, true, true, true, true, true, true, true, true, true, true, true, true, true, false, false, false, false, false, false, false, false, false, false, false] rfl rfl (any_of HT_.out (by kernel_rfl)) (fun _ _ _ h => h) (Or.inl ⟨by rfl, ?_⟩) ?_ ?_
                 rotate_left
                 · intro w'; go_simp; with_reducible rfl
                 rotate_left
                 ·
                  simp only [Act.put, q_row, q_zero, q_succ, i64_w, i32_w]
                  rfl
                 refine pure_ (i := 18) (N := some 97) (v := ?_) (a' := ?_) #[true, true, true, true, true, true, true, true, true, true, true, true, true, true, true, true, true, true, true, false, false, false, false, false, false, false, false, false, false] rfl rfl (any_of HT_.out (by kernel_rfl)) (fun _ _ _ h => h) (Or.inl ⟨by rfl, ?_⟩) ?_ ?_
                 rotate_left
                 · intro w'; go_simp; with_reducible rfl
                 rotate_left
                 ·
                  simp only [Act.put, q_row, q_zero, q_succ, i64_w, i32_w]
                  rfl
                 refine pure_ (i := 19) (N := some 98) (v := ?_) (a' := ?_) #[true, true, true, true, true, true, true, true, true, true, true, true, true, true, true, true, true, true, true, true, false, false, false, false, false, false, false, false, false] rfl rfl (any_of HT_.out (by kernel_rfl)) (fun _ _ _ h => h) (Or.inl ⟨by rfl, ?_⟩) ?_ ?_
                 rotate_left
                 · intro w'; go_simp; with_reducible rfl
                 rotate_left
                 ·
                  simp only [Act.put, q_row, q_zero, q_succ, i64_w, i32_w]
                  rfl
                 refine pure_ (i := 21) (N := some 100) (v := ?_) (a' := ?_) #[true, true, true, true, true, true, true, true, true, true, true, true, true, true, true, true, true, true, true, true, false, true, false, false, false, false, false, false, false] rfl rfl (any_of HT_.out (by kernel_rfl)) (fun _ _ _ h => h) (Or.inl ⟨by rfl, ?_⟩) ?_ ?_
                 rotate_left
                 · intro w'; go_simp; with_reducible rfl
                 rotate_left
                 ·
                  simp only [Act.put, q_row, q_zero, q_succ, i64_w, i32_w]
                  rfl
                 refine pure_ (i := 22) (N := some 101) (v := ?_) (a' := ?_) #[true, true, true, true, true, true, true, true, true, true, true, true, true, true, true, true, true, true, true, true, false, true, true, false, false, false, false, false, false] rfl rfl (any_of HT_.out (by kernel_rfl)) (fun _ _ _ h => h) (Or.inl ⟨by rfl, ?_⟩) ?_ ?_
                 rotate_left
                 · intro w'; go_simp; with_reducible rfl
                 rotate_left
                 ·
                  simp only [Act.put, q_row, q_zero, q_succ, i64_w, i32_w]
                  rfl
                 refine pure_ (i := 23) (N := some 102) (v := ?_) (a' := ?_) #[true, true, true, true, true, true, true, true, true, true, true, true, true, true, true, true, true, true, true, true, false, true, true, true, false, false, false, false, false] rfl rfl (any_of HT_.out (by kernel_rfl)) (fun _ _ _ h => h) (Or.inl ⟨by rfl, ?_⟩) ?_ ?_
                 rotate_left
                 · intro w'; go_simp; with_reducible rfl
                 rotate_left
                 ·
                  simp only [Act.put, q_row, q_zero, q_succ, i64_w, i32_w]
                  rfl
                 refine pure_ (i := 24) (N := some 103) (v := ?_) (a' := ?_) #[true, true, true, true, true, true, true, true, true, true, true, true, true, true, true, true, true, true, true, true, false, true, true, true, true, false, false, false, false] rfl rfl (any_of HT_.out (by kernel_rfl)) (fun _ _ _ h => h) (Or.inl ⟨by rfl, ?_⟩) ?_ ?_
                 rotate_left
                 · intro w'; go_simp; with_reducible rfl
                 rotate_left
                 ·
                  simp only [Act.put, q_row, q_zero, q_succ, i64_w, i32_w]
                  rfl
                 refine take_ (i := 20) (N := some 99) (v := ?_) (a' := ?_) #[true, true, true, true, true, true, true, true, true, true, true, true, true, true, true, true, true, true, true, true, true, true, true, true, true, false, false, false, false] rfl rfl (take_ofW HT_.out HW_.out (by kernel_rfl)) (fun _ _ _ h => h) (Or.inl ⟨by rfl, ?_⟩) hHeld ?_ ?_
                 rotate_left
                 ·
                  rintro w' ⟨s0, s1, s2, s3, s4, s5, s6, s7, s8, s9, s10, s11, s12, s13, s14, s15, s16, s17, s18, s19⟩
                  go_simp
                  with_reducible rfl
                 rotate_left
                 ·
                  simp only [Act.put, q_row, q_zero, q_succ, i64_w, i32_w]
                  rfl
                 refine take_ (i := 25) (N := some 104) (v := ?_) (a' := ?_) #[true, true, true, true, true, true, true, true, true, true, true, true, true, true, true, true, true, true, true, true, true, true, true, true, true, true, false, false, false] rfl rfl (take_ofW HT_.out HW_.out (by kernel_rfl)) (fun _ _ _ h => h) (Or.inl ⟨by rfl, ?_⟩) hHeld ?_ ?_
                 rotate_left
                 ·
                  rintro w' ⟨s0, s1, s2, s3, s4, s5, s6, s7, s8, s9, s10, s11, s12, s13, s14, s15, s16, s17, s18, s19⟩
                  go_simp
                  with_reducible rfl
                 rotate_left
                 ·
                  simp only [Act.put, q_row, q_zero, q_succ, i64_w, i32_w]
                  rfl
                 refine pure_ (i := 26) (N := some 105) (v := ?_) (a' := ?_) #[true, true, true, true, true, true, true, true, true, true, true, true, true, true, true, true, true, true, true, true, true, true, true, true, true, true, true, false, false] rfl rfl (any_of HT_.out (by kernel_rfl)) (fun _ _ _ h => h) (Or.inl ⟨by rfl, ?_⟩) ?_ ?_
                 rotate_left
                 · intro w'; go_simp; with_reducible rfl
                 rotate_left
                 ·
                  simp only [Act.put, q_row, q_zero, q_succ, i64_w, i32_w]
                  rfl
                 refine pure_ (i := 27) (N := some 106) (v := ?_) (a' := ?_) #[true, true, true, true, true, true, true, true, true, true, true, true, true, true, true, true, true, true, true, true, true, true, true, true, true, true, true, true, false] rfl rfl (any_of HT_.out (by kernel_rfl)) (fun _ _ _ h => h) (Or.inl ⟨by rfl, ?_⟩) ?_ ?_
                 rotate_left
                 · intro w'; go_simp; with_reducible rfl
                 rotate_left
                 ·
                  simp only [Act.put, q_row, q_zero, q_succ, i64_w, i32_w]
                  rfl
                 refine pure_ (i := 28) (N := some 107) (v := ?_) (a' := ?_) #[true, true, true, true, true, true, true, true, true, true, true, true, true, true, true, true, true, true, true, true, true, true, true, true, true, true, true, true, true] rfl rfl (any_of HT_.out (by kernel_rfl)) (fun _ _ _ h => h) (Or.inl ⟨by rfl, ?_⟩) ?_ ?_
                 rotate_left
                 · intro w'; go_simp; with_reducible rfl
                 rotate_left
                 ·
                  simp only [Act.put, q_row, q_zero, q_succ, i64_w, i32_w]
                  rfl
                 refine done_ (done_of HT_.out (by kernel_rfl)) ?_
                 try go_wp2
                 go_meet
                 case rel => exact ⟨_, ((((rd_T33 t173 x14_3).f4) != ((rd_T33 t163 x14_3).f4))), (by first | rfl | (simp; done) | (simp [*]; done)), H', ⟨by have := HJ6.out; have := HJ19.out; have := HK3.out; first | omega | exact Nat.le_refl _⟩, ⟨by (with_reducible repeat (first | apply Kd.S_alloc | apply Kd.S_drewN | apply Kd.S_drew)); exact HO_5.out⟩, ⟨by (with_reducible repeat (first | apply Kd.S_alloc | apply Kd.S_drewN | apply Kd.S_drew)); exact HO_8.out⟩, ⟨by (with_reducible repeat (first | apply Kd.S_alloc | apply Kd.S_drewN | apply Kd.S_drew)); exact HO_11.out⟩, ⟨by repeat (first | (with_reducible first | exact HB.out | apply below_alloc | apply pw_below_drewN | apply below_drew1) | exact HB.out)⟩⟩
                ·
                 replace c33 := Bool.eq_false_iff.mpr c33
                 subst c33
                 have H1 : (rookerylaw15_LexJoins.j3 k3 a0 t163 t168 t173 x14_3 true) = some r := by rw [if_neg (show ¬ (false = true) by decide)] at H; exact H
                 clear H
                 have H := H1
                 clear H1
                 have H' := Aside0.mk H
                 clear H
                 try go_wp2
                 have n0_ := Aside0.mk (Kd.S_drew HO_5.out)
                 have n1_ := Aside0.mk (Kd.S_drew HO_8.out)
                 have n2_ := Aside0.mk (Kd.S_drew HO_11.out)
                 have n3_ := Aside0.mk (below_drew1 HB.out)
                 clear HO_5
                 clear HO_8
                 clear HO_11
                 clear HB
                 have HO_5 := n0_
                 have HO_8 := n1_
                 have HO_11 := n2_
                 have HB := n3_
                 clear n0_ n1_ n2_ n3_
                 obtain ⟨Ao38, co38, eo38⟩ := Kd.S_slice HO_5.out
                 (first | subst eo38 | (injection eo38 with f1_ f2_ f3_; have f4_ := f1_.symm; have f5_ := f3_.symm; clear f1_ f2_ f3_; subst f4_; subst f5_))
                 have p178 : 0 ≤ (x14_3 : Int) := of_decide_eq_true (by first | (with_reducible assumption) | assumption)
                 have q178 : x14_3 < (t173.length : Int) := of_decide_eq_true (by first | (with_reducible assumption) | assumption)
                 obtain ⟨ad178, A178_3, c178_3, e178, hx178_0, hx178_1, hx178_2, hx178_3, hx178_4, hl178_3, hi178_3⟩ := at_T33 (Kd.S_reads' HO_11.out).2.2 x14_3 p178 q178
                 cases e178
                 obtain ⟨ce178, hce178, hMe178, hcc178⟩ := Kd.S_get HO_11.out z33 x14_3 p178 (by first | exact q178 | exact of_decide_eq_true (by first | (with_reducible assumption) | assumption) | (have e_ := (Kd.S_reads' HO_11.out).1; omega))
                 obtain ⟨ve178_3, rfl, ge178_3⟩ := k33_openM hMe178
                 have hv178_3 := hcc178 3 _ rfl
                 rw [add_field _ _ 3 (by omega)] at hv178_3
                 replace hv178_3 := Option.some.inj (hv178_3.symm.trans hx178_3)
                 rw [hv178_3] at ge178_3
                 have HL178_3 := Aside0.mk (show Kd.R (Kd.int .u8) 5 _ _ _ _ ((rd_T33 t173 x14_3).f3) from ge178_3)
                 clear hv178_3 ge178_3
                 clear hcc178 hce178
                 have HR178_3 := Aside0.mk hi178_3
                 have HC178_3 := Aside0.mk hl178_3
                 clear hi178_3 hl178_3
                 replace p178 := eq_true p178
                 replace q178 := eq_true q178
                 have p179 : 0 ≤ (x14_3 : Int) := of_decide_eq_true (by first | (with_reducible assumption) | assumption)
                 have q179 : x14_3 < (t163.length : Int) := of_decide_eq_true (by first | (with_reducible assumption) | assumption)
                 obtain ⟨ad179, A179_3, c179_3, e179, hx179_0, hx179_1, hx179_2, hx179_3, hx179_4, hl179_3, hi179_3⟩ := at_T33 (Kd.S_reads' HO_5.out).2.2 x14_3 p179 q179
                 cases e179
                 obtain ⟨ce179, hce179, hMe179, hcc179⟩ := Kd.S_get HO_5.out z33 x14_3 p179 (by first | exact q179 | exact of_decide_eq_true (by first | (with_reducible assumption) | assumption) | (have e_ := (Kd.S_reads' HO_5.out).1; omega))
                 obtain ⟨ve179_3, rfl, ge179_3⟩ := k33_openM hMe179
                 have hv179_3 := hcc179 3 _ rfl
                 rw [add_field _ _ 3 (by omega)] at hv179_3
                 replace hv179_3 := Option.some.inj (hv179_3.symm.trans hx179_3)
                 rw [hv179_3] at ge179_3
                 have HL179_3 := Aside0.mk (show Kd.R (Kd.int .u8) 5 _ _ _ _ ((rd_T33 t163 x14_3).f3) from ge179_3)
                 clear hv179_3 ge179_3
                 clear hcc179 hce179
                 have HR179_3 := Aside0.mk hi179_3
                 have HC179_3 := Aside0.mk hl179_3
                 clear hi179_3 hl179_3
                 replace p179 := eq_true p179
                 replace q179 := eq_true q179
                 refine start_ (n := 29) (S := fun w' => w'.cell? (ad178.add ((x14_3).toNat * 5)) = some (.int .i64 ((rd_T33 t173 x14_3).f0)) ∧ w'.cell? ⟨(ad178.add ((x14_3).toNat * 5)).block, (ad178.add ((x14_3).toNat * 5)).off + 1, none⟩ = some (.string ((rd_T33 t173 x14_3).f1)) ∧ w'.cell? ⟨(ad178.add ((x14_3).toNat * 5)).block, (ad178.add ((x14_3).toNat * 5)).off + 2, none⟩ = some (.int .i64 ((rd_T33 t173 x14_3).f2)) ∧ w'.cell? ⟨(ad178.add ((x14_3).toNat * 5)).block, (ad178.add ((x14_3).toNat * 5)).off + 3, none⟩ = some (.slice A178_3 ((rd_T33 t173 x14_3).f3).length c178_3) ∧ w'.cell? ⟨(ad178.add ((x14_3).toNat * 5)).block, (ad178.add ((x14_3).toNat * 5)).off + 4, none⟩ = some (.int .i64 ((rd_T33 t173 x14_3).f4)) ∧ w'.cell? (ad179.add ((x14_3).toNat * 5)) = some (.int .i64 ((rd_T33 t163 x14_3).f0)) ∧ w'.cell? ⟨(ad179.add ((x14_3).toNat * 5)).block, (ad179.add ((x14_3).toNat * 5)).off + 1, none⟩ = some (.string ((rd_T33 t163 x14_3).f1)) ∧ w'.cell? ⟨(ad179.add ((x14_3).toNat * 5)).block, (ad179.add ((x14_3).toNat * 5)).off + 2, none⟩ = some (.int .i64 ((rd_T33 t163 x14_3).f2)) ∧ w'.cell? ⟨(ad179.add ((x14_3).toNat * 5)).block, (ad179.add ((x14_3).toNat * 5)).off + 3, none⟩ = some (.slice A179_3 ((rd_T33 t163 x14_3).f3).length c179_3) ∧ w'.cell? ⟨(ad179.add ((x14_3).toNat * 5)).block, (ad179.add ((x14_3).toNat * 5)).off + 4, none⟩ = some (.int .i64 ((rd_T33 t163 x14_3).f4))) (ds := []) #[false, false, false, false, false, false, false, false, false, false, false, false, false, false, false, false, false, false, false, false, false, false, false, false, false, false, false, false, false] (by kernel_rfl) rfl rfl ⟨hx178_0, hx178_1, hx178_2, hx178_3, hx178_4, hx179_0, hx179_1, hx179_2, hx179_3, hx179_4⟩ (fun hHeld => ?_); refine with_tabW rookerylaw15_LexJoins.tab13 rookerylaw15_LexJoins.bits13 (fun HT_ HW_ => ?_)
                 generalize wr.drew = w37 at HO_5 HO_8 HO_11 HB HL178_3 HL179_3 HR178_3 HR179_3 hx178_0 hx178_1 hx178_2 hx178_3 hx178_4 hx179_0 hx179_1 hx179_2 hx179_3 hx179_4 hHeld ⊢
                 refine pure_ (i := 0) (N := some 79) (v := ?_) (a' := ?_) #[true, false, false, false, false, false, false, false, false, false, false, false, false, false, false, false, false, false, false, false, false, false, false, false, false, false, false, false, false] rfl rfl (any_of HT_.out (by kernel_rfl)) (fun _ _ _ h => h) (Or.inl ⟨by rfl, ?_⟩) ?_ ?_
                 rotate_left
                 · intro w'; go_simp; with_reducible rfl
                 rotate_left
                 ·
                  simp only [Act.put, q_row, q_zero, q_succ, i64_w, i32_w]
                  rfl
                 refine pure_ (i := 1) (N := some 80) (v := ?_) (a' := ?_) #[true, true, false, false, false, false, false, false, false, false, false, false, false, false, false, false, false, false, false, false, false, false, false, false, false, false, false, false, false] rfl rfl (any_of HT_.out (by kernel_rfl)) (fun _ _ _ h => h) (Or.inl ⟨by rfl, ?_⟩) ?_ ?_
                 rotate_left
                 · intro w'; go_simp; with_reducible rfl
                 rotate_left
                 ·
                  simp only [Act.put, q_row, q_zero, q_succ, i64_w, i32_w]
                  rfl
                 refine pure_ (i := 2) (N := some 81) (v := ?_) (a' := ?_) #[true, true, true, false, false, false, false, false, false, false, false, false, false, false, false, false, false, false, false, false, false, false, false, false, false, false, false, false, false] rfl rfl (any_of HT_.out (by kernel_rfl)) (fun _ _ _ h => h) (Or.inl ⟨by rfl, ?_⟩) ?_ ?_
                 rotate_left
                 · intro w'; go_simp; with_reducible rfl
                 rotate_left
                 ·
                  simp only [Act.put, q_row, q_zero, q_succ, i64_w, i32_w]
                  rfl
                 refine pure_ (i := 3) (N := some 82) (v := ?_) (a' := ?_) #[true, true, true, true, false, false, false, false, false, false, false, false, false, false, false, false, false, false, false, false, false, false, false, false, false, false, false, false, false] rfl rfl (any_of HT_.out (by kernel_rfl)) (fun _ _ _ h => h) (Or.inl ⟨by rfl, ?_⟩) ?_ ?_
                 rotate_left
                 · intro w'; go_simp; with_reducible rfl
                 rotate_left
                 ·
                  simp only [Act.put, q_row, q_zero, q_succ, i64_w, i32_w]
                  rfl
                 refine pure_ (i := 4) (N := some 83) (v := ?_) (a' := ?_) #[true, true, true, true, true, false, false, false, false, false, false, false, false, false, false, false, false, false, false, false, false, false, false, false, false, false, false, false, false] rfl rfl (any_of HT_.out (by kernel_rfl)) (fun _ _ _ h => h) (Or.inl ⟨by rfl, ?_⟩) ?_ ?_
                 rotate_left
                 · intro w'; go_simp; with_reducible rfl
                 rotate_left
                 ·
                  simp only [Act.put, q_row, q_zero, q_succ, i64_w, i32_w]
                  rfl
                 refine pure_ (i := 5) (N := some 84) (v := ?_) (a' := ?_) #[true, true, true, true, true, true, false, false, false, false, false, false, false, false, false, false, false, false, false, false, false, false, false, false, false, false, false, false, false] rfl rfl (any_of HT_.out (by kernel_rfl)) (fun _ _ _ h => h) (Or.inl ⟨by rfl, ?_⟩) ?_ ?_
                 rotate_left
                 · intro w'; go_simp; with_reducible rfl
                 rotate_left
                 ·
                  simp only [Act.put, q_row, q_zero, q_succ, i64_w, i32_w]
                  rfl
                 refine pure_ (i := 6) (N := some 85) (v := ?_) (a' := ?_) #[true, true, true, true, true, true, true, false, false, false, false, false, false, false, false, false, false, false, false, false, false, false, false, false, false, false, false, false, false] rfl rfl (any_of HT_.out (by kernel_rfl)) (fun _ _ _ h => h) (Or.inl ⟨by rfl, ?_⟩) ?_ ?_
                 rotate_left
                 · intro w'; go_simp; with_reducible rfl
                 rotate_left
                 ·
                  simp only [Act.put, q_row, q_zero, q_succ, i64_w, i32_w]
                  rfl
                 refine pure_ (i := 7) (N := some 86) (v := ?_) (a' := ?_) #[true, true, true, true, true, true, true, true, false, false, false, false, false, false, false, false, false, false, false, false, false, false, false, false, false, false, false, false, false] rfl rfl (any_of HT_.out (by kernel_rfl)) (fun _ _ _ h => h) (Or.inl ⟨by rfl, ?_⟩) ?_ ?_
                 rotate_left
                 · intro w'; go_simp; with_reducible rfl
                 rotate_left
                 ·
                  simp only [Act.put, q_row, q_zero, q_succ, i64_w, i32_w]
                  rfl
                 refine pure_ (i := 9) (N := some 88) (v := ?_) (a' := ?_) #[true, true, true, true, true, true, true, true, false, true, false, false, false, false, false, false, false, false, false, false, false, false, false, false, false, false, false, false, false] rfl rfl (any_of HT_.out (by kernel_rfl)) (fun _ _ _ h => h) (Or.inl ⟨by rfl, ?_⟩) ?_ ?_
                 rotate_left
                 · intro w'; go_simp; with_reducible rfl
                 rotate_left
                 ·
                  simp only [Act.put, q_row, q_zero, q_succ, i64_w, i32_w]
                  rfl
                 refine pure_ (i := 10) (N := some 89) (v := ?_) (a' := ?_) #[true, true, true, true, true, true, true, true, false, true, true, false, false, false, false, false, false, false, false, false, false, false, false, false, false, false, false, false, false] rfl rfl (any_of HT_.out (by kernel_rfl)) (fun _ _ _ h => h) (Or.inl ⟨by rfl, ?_⟩) ?_ ?_
                 rotate_left
                 · intro w'; go_simp; with_reducible rfl
                 rotate_left
                 ·
                  simp only [Act.put, q_row, q_zero, q_succ, i64_w, i32_w]
                  rfl
                 refine pure_ (i := 11) (N := some 90) (v := ?_) (a' := ?_) #[true, true, true, true, true, true, true, true, false, true, true, true, false, false, false, false, false, false, false, false, false, false, false, false, false, false, false, false, false] rfl rfl (any_of HT_.out (by kernel_rfl)) (fun _ _ _ h => h) (Or.inl ⟨by rfl, ?_⟩) ?_ ?_
                 rotate_left
                 · intro w'; go_simp; with_reducible rfl
                 rotate_left
                 ·
                  simp only [Act.put, q_row, q_zero, q_succ, i64_w, i32_w]
                  rfl
                 refine take_ (i := 8) (N := some 87) (v := ?_) (a' := ?_) #[true, true, true, true, true, true, true, true, true, true, true, true, false, false, false, false, false, false, false, false, false, false, false, false, false, false, false, false, false] rfl rfl (take_ofW HT_.out HW_.out (by kernel_rfl)) (fun _ _ _ h => h) (Or.inl ⟨by rfl, ?_⟩) hHeld ?_ ?_
                 rotate_left
                 ·
                  rintro w' ⟨s0, s1, s2, s3, s4, s5, s6, s7, s8, s9⟩
                  go_simp
                  with_reducible rfl
                 rotate_left
                 ·
                  simp only [Act.put, q_row, q_zero, q_succ, i64_w, i32_w]
                  rfl
                 refine take_ (i := 12) (N := some 91) (v := ?_) (a' := ?_) #[true, true, true, true, true, true, true, true, true, true, true, true, true, false, false, false, false, false, false, false, false, false, false, false, false, false, false, false, false] rfl rfl (take_ofW HT_.out HW_.out (by kernel_rfl)) (fun _ _ _ h => h) (Or.inl ⟨by rfl, ?_⟩) hHeld ?_ ?_
                 rotate_left
                 ·
                  rintro w' ⟨s0, s1, s2, s3, s4, s5, s6, s7, s8, s9⟩
                  go_simp
                  with_reducible rfl
                 rotate_left
                 ·
                  simp only [Act.put, q_row, q_zero, q_succ, i64_w, i32_w]
                  rfl
                 refine one_ (i := 13) (N := some 92) #[true, true, true, true, true, true, true, true, true, true, true, true, true, true, false, false, false, false, false, false, false, false, false, false, false, false, false, false, false] rfl rfl (one_of HT_.out (by kernel_rfl)) (by decide) (fun K hK => ?_)
                 refine goes_ Tryd.func21 (by kernel_rfl) rfl #[.agg #[.int .i64 ((rd_T33 t173 x14_3).f0), .string ((rd_T33 t173 x14_3).f1), .int .i64 ((rd_T33 t173 x14_3).f2), .slice A178_3 ((rd_T33 t173 x14_3).f3).length c178_3, .int .i64 ((rd_T33 t173 x14_3).f4)], .agg #[.int .i64 ((rd_T33 t163 x14_3).f0), .string ((rd_T33 t163 x14_3).f1), .int .i64 ((rd_T33 t163 x14_3).f2), .slice A179_3 ((rd_T33 t163 x14_3).f3).length c179_3, .int .i64 ((rd_T33 t163 x14_3).f4)]] (by rfl) rfl rfl (by (try simp only [List.map_toArray, List.map_cons, List.map_nil]); first | done | rfl | (simp only [List.length_drop, List.length_take]; rfl)) ?_
                 with_reducible refine (rookeryref15_Same.calls ((rd_T33 t173 x14_3).f0) ((rd_T33 t173 x14_3).f1) ((rd_T33 t173 x14_3).f2) _ _ ((rd_T33 t173 x14_3).f3) ((rd_T33 t173 x14_3).f4) ((rd_T33 t163 x14_3).f0) ((rd_T33 t163 x14_3).f1) ((rd_T33 t163 x14_3).f2) _ _ ((rd_T33 t163 x14_3).f3) ((rd_T33 t163 x14_3).f4) false _ ?side1 ?side2 ?side3 ?side4 A32.out).mono ?_
                 (case side1 => repeat (first | exact (by repeat (first | (with_reducible exact HR178_3.out) | (with_reducible refine Kd.C_alloc ?_ _) | (with_reducible refine Kd.C_drewN ?_ _) | (with_reducible refine Kd.C_drew ?_) | exact HR178_3.out)) | (with_reducible refine Kd.C_alloc ?_ _) | (with_reducible refine Kd.C_drewN ?_ _) | (with_reducible refine Kd.C_drew ?_)))
                 (case side2 => exact HC178_3.out)
                 (case side3 => repeat (first | exact (by repeat (first | (with_reducible exact HR179_3.out) | (with_reducible refine Kd.C_alloc ?_ _) | (with_reducible refine Kd.C_drewN ?_ _) | (with_reducible refine Kd.C_drew ?_) | exact HR179_3.out)) | (with_reducible refine Kd.C_alloc ?_ _) | (with_reducible refine Kd.C_drewN ?_ _) | (with_reducible refine Kd.C_drew ?_)))
                 (case side4 => exact HC179_3.out)
                 rintro e w39 ⟨rfl, hb⟩
                 have HS0_ := (hb.cell (World.block_lt_of_cell? _ _ (hHeld.1))).trans (hHeld.1)
                 have HS1_ := (hb.cell (World.block_lt_of_cell? _ _ (hHeld.2.1))).trans (hHeld.2.1)
                 have HS2_ := (hb.cell (World.block_lt_of_cell? _ _ (hHeld.2.2.1))).trans (hHeld.2.2.1)
                 have HS3_ := (hb.cell (World.block_lt_of_cell? _ _ (hHeld.2.2.2.1))).trans (hHeld.2.2.2.1)
                 have HS4_ := (hb.cell (World.block_lt_of_cell? _ _ (hHeld.2.2.2.2.1))).trans (hHeld.2.2.2.2.1)
                 have HS5_ := (hb.cell (World.block_lt_of_cell? _ _ (hHeld.2.2.2.2.2.1))).trans (hHeld.2.2.2.2.2.1)
                 have HS6_ := (hb.cell (World.block_lt_of_cell? _ _ (hHeld.2.2.2.2.2.2.1))).trans (hHeld.2.2.2.2.2.2.1)
                 have HS7_ := (hb.cell (World.block_lt_of_cell? _ _ (hHeld.2.2.2.2.2.2.2.1))).trans (hHeld.2.2.2.2.2.2.2.1)
                 have HS8_ := (hb.cell (World.block_lt_of_cell? _ _ (hHeld.2.2.2.2.2.2.2.2.1))).trans (hHeld.2.2.2.2.2.2.2.2.1)
                 have HS9_ := (hb.cell (World.block_lt_of_cell? _ _ (hHeld.2.2.2.2.2.2.2.2.2))).trans (hHeld.2.2.2.2.2.2.2.2.2)
                 refine ⟨_, rfl, ?_⟩
                 have n0_ := Aside0.mk (Kd.S_below (by (with_reducible repeat (first | apply Kd.S_alloc | apply Kd.S_drewN | apply Kd.S_drew)); exact HO_5.out) hb)
                 have n1_ := Aside0.mk (Kd.S_below (by (with_reducible repeat (first | apply Kd.S_alloc | apply Kd.S_drewN | apply Kd.S_drew)); exact HO_8.out) hb)
                 have n2_ := Aside0.mk (Kd.S_below (by (with_reducible repeat (first | apply Kd.S_alloc | apply Kd.S_drewN | apply Kd.S_drew)); exact HO_11.out) hb)
                 have n3_ := Aside0.mk (Kd.R_below (by (with_reducible repeat (first | apply Kd.R_alloc | apply Kd.R_drewN | apply Kd.R_drew)); exact HL178_3.out) hb)
                 have n4_ := Aside0.mk (Kd.R_below (by (with_reducible repeat (first | apply Kd.R_alloc | apply Kd.R_drewN | apply Kd.R_drew)); exact HL179_3.out) hb)
                 have n5_ := Aside0.mk (Kd.C_below (by repeat (first | (with_reducible exact HR178_3.out) | (with_reducible refine Kd.C_alloc ?_ _) | (with_reducible refine Kd.C_drewN ?_ _) | (with_reducible refine Kd.C_drew ?_) | exact HR178_3.out)) hb)
                 have n6_ := Aside0.mk (Kd.C_below (by repeat (first | (with_reducible exact HR179_3.out) | (with_reducible refine Kd.C_alloc ?_ _) | (with_reducible refine Kd.C_drewN ?_ _) | (with_reducible refine Kd.C_drew ?_) | exact HR179_3.out)) hb)
                 have n7_ := Aside0.mk (below_step (by repeat (first | (with_reducible first | exact HB.out | apply below_alloc | apply pw_below_drewN | apply below_drew1) | exact HB.out)) hb)
                 clear HO_5
                 clear HO_8
                 clear HO_11
                 clear HL178_3
                 clear HL179_3
                 clear HR178_3
                 clear HR179_3
                 clear HB
                 have HO_5 := n0_
                 have HO_8 := n1_
                 have HO_11 := n2_
                 have HL178_3 := n3_
                 have HL179_3 := n4_
                 have HR178_3 := n5_
                 have HR179_3 := n6_
                 have HB := n7_
                 clear n0_ n1_ n2_ n3_ n4_ n5_ n6_ n7_
                 (try clear hb)
                 (try clear hb2)
                 (try clear hk)
                 (try clear hi)
                 refine hK.out _ _ ⟨HS0_, HS1_, HS2_, HS3_, HS4_, HS5_, HS6_, HS7_, HS8_, HS9_⟩ (fun hHeld => ?_)
                 clear hK K
                 refine norm_ (a' := ?_) ?_ ?_
                 rotate_left
                 ·
                  show Act.put _ (some 92) _ = _
                  simp only [Act.put, q_row, q_zero, q_succ, i64_w, i32_w]
                  rfl
                 refine pure_ (i := 14) (N := some 93) (v := ?_) (a' := ?_) #[true, true, true, true, true, true, true, true, true, true, true, true, true, true, true, false, false, false, false, false, false, false, false, false, false, false, false, false, false] rfl rfl (any_of HT_.out (by kernel_rfl)) (fun _ _ _ h => h) (Or.inl ⟨by rfl, ?_⟩) ?_ ?_
                 rotate_left
                 · intro w'; go_simp; with_reducible rfl
                 rotate_left
                 ·
                  simp only [Act.put, q_row, q_zero, q_succ, i64_w, i32_w]
                  rfl
                 refine pure_ (i := 15) (N := some 94) (v := ?_) (a' := ?_) #[true, true, true, true, true, true, true, true, true, true, true, true, true, true, true, true, false, false, false, false, false, false, false, false, false, false, false, false, false] rfl rfl (any_of HT_.out (by kernel_rfl)) (fun _ _ _ h => h) (Or.inl ⟨by rfl, ?_⟩) ?_ ?_
                 rotate_left
                 · intro w'; go_simp; with_reducible rfl
                 rotate_left
                 ·
                  simp only [Act.put, q_row, q_zero, q_succ, i64_w, i32_w]
                  rfl
                 refine pure_ (i := 16) (N := some 95) (v := undef) (a' := ?_) #[true, true, true, true, true, true, true, true, true, true, true, true, true, true, true, true, true, false, false, false, false, false, false, false, false, false, false, false, false] rfl rfl (any_of HT_.out (by kernel_rfl)) (fun _ _ _ h => h) (Or.inr ⟨by rfl, rfl⟩) ?_ ?_
                 rotate_left
                 ·
                  simp only [Act.put, q_row, q_zero, q_succ, i64_w, i32_w]
                  rfl
                 refine pure_ (i := 17) (N := some 96) (v := undef) (a' := ?_) #[true, true, true, true, true, true, true, true, true, true, true, true, true, true, true, true, true, true, false, false, false, false, false, false, false, false, false, false, false] rfl rfl (any_of HT_.out (by kernel_rfl)) (fun _ _ _ h => h) (Or.inr ⟨by rfl, rfl⟩) ?_ ?_
                 rotate_left
                 ·
                  simp only [Act.put, q_row, q_zero, q_succ, i64_w, i32_w]
                  rfl
                 refine pure_ (i := 18) (N := some 97) (v := undef) (a' := ?_) #[true, true, true, true, true, true, true, true, true, true, true, true, true, true, true, true, true, true, true, false, false, false, false, false, false, false, false, false, false] rfl rfl (any_of HT_.out (by kernel_rfl)) (fun _ _ _ h => h) (Or.inr ⟨by rfl, rfl⟩) ?_ ?_
                 rotate_left
                 ·
                  simp only [Act.put, q_row, q_zero, q_succ, i64_w, i32_w]
                  rfl
                 refine pure_ (i := 19) (N := some 98) (v := undef) (a' := ?_) #[true, true, true, true, true, true, true, true, true, true, true, true, true, true, true, true, true, true, true, true, false, false, false, false, false, false, false, false, false] rfl rfl (any_of HT_.out (by kernel_rfl)) (fun _ _ _ h => h) (Or.inr ⟨by rfl, rfl⟩) ?_ ?_
                 rotate_left
                 ·
                  simp only [Act.put, q_row, q_zero, q_succ, i64_w, i32_w]
                  rfl
                 refine pure_ (i := 20) (N := some 99) (v := undef) (a' := ?_) #[true, true, true, true, true, true, true, true, true, true, true, true, true, true, true, true, true, true, true, true, true, false, false, false, false, false, false, false, false] rfl rfl (any_of HT_.out (by kernel_rfl)) (fun _ _ _ h => h) (Or.inr ⟨by rfl, rfl⟩) ?_ ?_
                 rotate_left
                 ·
                  simp only [Act.put, q_row, q_zero, q_succ, i64_w, i32_w]
                  rfl
                 refine pure_ (i := 21) (N := some 100) (v := undef) (a' := ?_) #[true, true, true, true, true, true, true, true, true, true, true, true, true, true, true, true, true, true, true, true, true, true, false, false, false, false, false, false, false] rfl rfl (any_of HT_.out (by kernel_rfl)) (fun _ _ _ h => h) (Or.inr ⟨by rfl, rfl⟩) ?_ ?_
                 rotate_left
                 ·
                  simp only [Act.put, q_row, q_zero, q_succ, i64_w, i32_w]
                  rfl
                 refine pure_ (i := 22) (N := some 101) (v := undef) (a' := ?_) #[true, true, true, true, true, true, true, true, true, true, true, true, true, true, true, true, true, true, true, true, true, true, true, false, false, false, false, false, false] rfl rfl (any_of HT_.out (by kernel_rfl)) (fun _ _ _ h => h) (Or.inr ⟨by rfl, rfl⟩) ?_ ?_
                 rotate_left
                 ·
                  simp only [Act.put, q_row, q_zero, q_succ, i64_w, i32_w]
                  rfl
                 refine pure_ (i := 23) (N := some 102) (v := undef) (a' := ?_) #[true, true, true, true, true, true, true, true, true, true, true, true, true, true, true, true, true, true, true, true, true, true, true, true, false, false, false, false, false] rfl rfl (any_of HT_.out (by kernel_rfl)) (fun _ _ _ h => h) (Or.inr ⟨by rfl, rfl⟩) ?_ ?_
                 rotate_left
                 ·
                  simp only [Act.put, q_row, q_zero, q_succ, i64_w, i32_w]
                  rfl
                 refine pure_ (i := 24) (N := some 103) (v := undef) (a' := ?_) #[true, true, true, true, true, true, true, true, true, true, true, true, true, true, true, true, true, true, true, true, true, true, true, true, true, false, false, false, false] rfl rfl (any_of HT_.out (by kernel_rfl)) (fun _ _ _ h => h) (Or.inr ⟨by rfl, rfl⟩) ?_ ?_
                 rotate_left
                 ·
                  simp only [Act.put, q_row, q_zero, q_succ, i64_w, i32_w]
                  rfl
                 refine pure_ (i := 25) (N := some 104) (v := undef) (a' := ?_) #[true, true, true, true, true, true, true, true, true, true, true, true, true, true, true, true, true, true, true, true, true, true, true, true, true, true, false, false, false] rfl rfl (any_of HT_.out (by kernel_rfl)) (fun _ _ _ h => h) (Or.inr ⟨by rfl, rfl⟩) ?_ ?_
                 rotate_left
                 ·
                  simp only [Act.put, q_row, q_zero, q_succ, i64_w, i32_w]
                  rfl
                 refine pure_ (i := 26) (N := some 105) (v := undef) (a' := ?_) #[true, true, true, true, true, true, true, true, true, true, true, true, true, true, true, true, true, true, true, true, true, true, true, true, true, true, true, false, false] rfl rfl (any_of HT_.out (by kernel_rfl)) (fun _ _ _ h => h) (Or.inr ⟨by rfl, rfl⟩) ?_ ?_
                 rotate_left
                 ·
                  simp only [Act.put, q_row, q_zero, q_succ, i64_w, i32_w]
                  rfl
                 refine pure_ (i := 27) (N := some 106) (v := ?_) (a' := ?_) #[true, true, true, true, true, true, true, true, true, true, true, true, true, true, true, true, true, true, true, true, true, true, true, true, true, true, true, true, false] rfl rfl (any_of HT_.out (by kernel_rfl)) (fun _ _ _ h => h) (Or.inl ⟨by rfl, ?_⟩) ?_ ?_
                 rotate_left
                 · intro w'; go_simp; with_reducible rfl
                 rotate_left
                 ·
                  simp only [Act.put, q_row, q_zero, q_succ, i64_w, i32_w]
                  rfl
                 refine pure_ (i := 28) (N := some 107) (v := ?_) (a' := ?_) #[true, true, true, true, true, true, true, true, true, true, true, true, true, true, true, true, true, true, true, true, true, true, true, true, true, true, true, true, true] rfl rfl (any_of HT_.out (by kernel_rfl)) (fun _ _ _ h => h) (Or.inl ⟨by rfl, ?_⟩) ?_ ?_
                 rotate_left
                 · intro w'; go_simp; with_reducible rfl
                 rotate_left
                 ·
                  simp only [Act.put, q_row, q_zero, q_succ, i64_w, i32_w]
                  rfl
                 refine done_ (done_of HT_.out (by kernel_rfl)) ?_
                 try go_wp2
                 go_meet
                 case rel => exact ⟨_, (true), (by first | rfl | (simp; done) | (simp [*]; done)), H', ⟨by have := HJ6.out; have := HJ19.out; have := HK3.out; first | omega | exact Nat.le_refl _⟩, ⟨by (with_reducible repeat (first | apply Kd.S_alloc | apply Kd.S_drewN | apply Kd.S_drew)); exact HO_5.out⟩, ⟨by (with_reducible repeat (first | apply Kd.S_alloc | apply Kd.S_drewN | apply Kd.S_drew)); exact HO_8.out⟩, ⟨by (with_reducible repeat (first | apply Kd.S_alloc | apply Kd.S_drewN | apply Kd.S_drew)); exact HO_11.out⟩, ⟨by repeat (first | (with_reducible first | exact HB.out | apply below_alloc | apply pw_below_drewN | apply below_drew1) | exact HB.out)⟩⟩
               ·
                rw [if_neg c31] at H
                exact absurd H (by simp)
              ·
               rw [if_neg c30] at H
               have c30b0 : decide (x14_3 < (t163.length : Int)) = false := decide_eq_false c30
               clear c30
               (first | rw [c30b0] | (simp only [i64_w, i32_w]; rw [c30b0]) | skip)
               have H' := Aside0.mk H
               clear H
               try go_wp2
               have n0_ := Aside0.mk (Kd.S_drew HO_5.out)
               have n1_ := Aside0.mk (Kd.S_drew HO_8.out)
               have n2_ := Aside0.mk (Kd.S_drew HO_11.out)
               have n3_ := Aside0.mk (below_drew1 HB.out)
               clear HO_5
               clear HO_8
               clear HO_11
               clear HB
               have HO_5 := n0_
               have HO_8 := n1_
               have HO_11 := n2_
               have HB := n3_
               clear n0_ n1_ n2_ n3_
               obtain ⟨Ao41, co41, eo41⟩ := Kd.S_slice HO_5.out
               (first | subst eo41 | (injection eo41 with f1_ f2_ f3_; have f4_ := f1_.symm; have f5_ := f3_.symm; clear f1_ f2_ f3_; subst f4_; subst f5_))
               refine start_ (n := 29) (S := fun w' => True) (ds := []) #[false, false, false, false, false, false, false, false, false, false, false, false, false, false, false, false, false, false, false, false, false, false, false, false, false, false, false, false, false] (by kernel_rfl) rfl rfl trivial (fun hHeld => ?_); refine with_tabW rookerylaw15_LexJoins.tab13 rookerylaw15_LexJoins.bits13 (fun HT_ HW_ => ?_)
               generalize wr.drew = w40 at HO_5 HO_8 HO_11 HB hHeld ⊢
               refine pure_ (i := 0) (N := some 79) (v := ?_) (a' := ?_) #[true, false, false, false, false, false, false, false, false, false, false, false, false, false, false, false, false, false, false, false, false, false, false, false, false, false, false, false, false] rfl rfl (any_of HT_.out (by kernel_rfl)) (fun _ _ _ h => h) (Or.inl ⟨by rfl, ?_⟩) ?_ ?_
               rotate_left
               · intro w'; go_simp; with_reducible rfl
               rotate_left
               ·
                simp only [Act.put, q_row, q_zero, q_succ, i64_w, i32_w]
                rfl
               refine pure_ (i := 1) (N := some 80) (v := ?_) (a' := ?_) #[true, true, false, false, false, false, false, false, false, false, false, false, false, false, false, false, false, false, false, false, false, false, false, false, false, false, false, false, false] rfl rfl (any_of HT_.out (by kernel_rfl)) (fun _ _ _ h => h) (Or.inl ⟨by rfl, ?_⟩) ?_ ?_
               rotate_left
               · intro w'; go_simp; with_reducible rfl
               rotate_left
               ·
                simp only [Act.put, q_row, q_zero, q_succ, i64_w, i32_w]
                rfl
               refine pure_ (i := 2) (N := some 81) (v := ?_) (a' := ?_) #[true, true, true, false, false, false, false, false, false, false, false, false, false, false, false, false, false, false, false, false, false, false, false, false, false, false, false, false, false] rfl rfl (any_of HT_.out (by kernel_rfl)) (fun _ _ _ h => h) (Or.inl ⟨by rfl, ?_⟩) ?_ ?_
               rotate_left
               · intro w'; go_simp; with_reducible rfl
               rotate_left
               ·
                simp only [Act.put, q_row, q_zero, q_succ, i64_w, i32_w]
                rfl
               refine pure_ (i := 3) (N := some 82) (v := ?_) (a' := ?_) #[true, true, true, true, false, false, false, false, false, false, false, false, false, false, false, false, false, false, false, false, false, false, false, false, false, false, false, false, false] rfl rfl (any_of HT_.out (by kernel_rfl)) (fun _ _ _ h => h) (Or.inl ⟨by rfl, ?_⟩) ?_ ?_
               rotate_left
               · intro w'; go_simp; with_reducible rfl
               rotate_left
               ·
                simp only [Act.put, q_row, q_zero, q_succ, i64_w, i32_w]
                rfl
               refine pure_ (i := 4) (N := some 83) (v := ?_) (a' := ?_) #[true, true, true, true, true, false, false, false, false, false, false, false, false, false, false, false, false, false, false, false, false, false, false, false, false, false, false, false, false] rfl rfl (any_of HT_.out (by kernel_rfl)) (fun _ _ _ h => h) (Or.inl ⟨by rfl, ?_⟩) ?_ ?_
               rotate_left
               · intro w'; go_simp; with_reducible rfl
               rotate_left
               ·
                simp only [Act.put, q_row, q_zero, q_succ, i64_w, i32_w]
                rfl
               refine pure_ (i := 5) (N := some 84) (v := undef) (a' := ?_) #[true, true, true, true, true, true, false, false, false, false, false, false, false, false, false, false, false, false, false, false, false, false, false, false, false, false, false, false, false] rfl rfl (any_of HT_.out (by kernel_rfl)) (fun _ _ _ h => h) (Or.inr ⟨by rfl, rfl⟩) ?_ ?_
               rotate_left
               ·
                simp only [Act.put, q_row, q_zero, q_succ, i64_w, i32_w]
                rfl
               refine pure_ (i := 6) (N := some 85) (v := undef) (a' := ?_) #[true, true, true, true, true, true, true, false, false, false, false, false, false, false, false, false, false, false, false, false, false, false, false, false, false, false, false, false, false] rfl rfl (any_of HT_.out (by kernel_rfl)) (fun _ _ _ h => h) (Or.inr ⟨by rfl, rfl⟩) ?_ ?_
               rotate_left
               ·
                simp only [Act.put, q_row, q_zero, q_succ, i64_w, i32_w]
                rfl
               refine pure_ (i := 7) (N := some 86) (v := undef) (a' := ?_) #[true, true, true, true, true, true, true, true, false, false, false, false, false, false, false, false, false, false, false, false, false, false, false, false, false, false, false, false, false] rfl rfl (any_of HT_.out (by kernel_rfl)) (fun _ _ _ h => h) (Or.inr ⟨by rfl, rfl⟩) ?_ ?_
               rotate_left
               ·
                simp only [Act.put, q_row, q_zero, q_succ, i64_w, i32_w]
                rfl
               refine pure_ (i := 8) (N := some 87) (v := undef) (a' := ?_) #[true, true, true, true, true, true, true, true, true, false, false, false, false, false, false, false, false, false, false, false, false, false, false, false, false, false, false, false, false] rfl rfl (any_of HT_.out (by kernel_rfl)) (fun _ _ _ h => h) (Or.inr ⟨by rfl, rfl⟩) ?_ ?_
               rotate_left
               ·
                simp only [Act.put, q_row, q_zero, q_succ, i64_w, i32_w]
                rfl
               refine pure_ (i := 9) (N := some 88) (v := undef) (a' := ?_) #[true, true, true, true, true, true, true, true, true, true, false, false, false, false, false, false, false, false, false, false, false, false, false, false, false, false, false, false, false] rfl rfl (any_of HT_.out (by kernel_rfl)) (fun _ _ _ h => h) (Or.inr ⟨by rfl, rfl⟩) ?_ ?_
               rotate_left
               ·
                simp only [Act.put, q_row, q_zero, q_succ, i64_w, i32_w]
                rfl
               refine pure_ (i := 10) (N := some 89) (v := undef) (a' := ?_) #[true, true, true, true, true, true, true, true, true, true, true, false, false, false, false, false, false, false, false, false, false, false, false, false, false, false, false, false, false] rfl rfl (any_of HT_.out (by kernel_rfl)) (fun _ _ _ h => h) (Or.inr ⟨by rfl, rfl⟩) ?_ ?_
               rotate_left
               ·
                simp only [Act.put, q_row, q_zero, q_succ, i64_w, i32_w]
                rfl
               refine pure_ (i := 11) (N := some 90) (v := undef) (a' := ?_) #[true, true, true, true, true, true, true, true, true, true, true, true, false, false, false, false, false, false, false, false, false, false, false, false, false, false, false, false, false] rfl rfl (any_of HT_.out (by kernel_rfl)) (fun _ _ _ h => h) (Or.inr ⟨by rfl, rfl⟩) ?_ ?_
               rotate_left
               ·
                simp only [Act.put, q_row, q_zero, q_succ, i64_w, i32_w]
                rfl
               refine pure_ (i := 12) (N := some 91) (v := undef) (a' := ?_) #[true, true, true, true, true, true, true, true, true, true, true, true, true, false, false, false, false, false, false, false, false, false, false, false, false, false, false, false, false] rfl rfl (any_of HT_.out (by kernel_rfl)) (fun _ _ _ h => h) (Or.inr ⟨by rfl, rfl⟩) ?_ ?_
               rotate_left
               ·
                simp only [Act.put, q_row, q_zero, q_succ, i64_w, i32_w]
                rfl
               refine pure_ (i := 13) (N := some 92) (v := undef) (a' := ?_) #[true, true, true, true, true, true, true, true, true, true, true, true, true, true, false, false, false, false, false, false, false, false, false, false, false, false, false, false, false] rfl rfl (any_of HT_.out (by kernel_rfl)) (fun _ _ _ h => h) (Or.inr ⟨by rfl, rfl⟩) ?_ ?_
               rotate_left
               ·
                simp only [Act.put, q_row, q_zero, q_succ, i64_w, i32_w]
                rfl
               refine pure_ (i := 14) (N := some 93) (v := undef) (a' := ?_) #[true, true, true, true, true, true, true, true, true, true, true, true, true, true, true, false, false, false, false, false, false, false, false, false, false, false, false, false, false] rfl rfl (any_of HT_.out (by kernel_rfl)) (fun _ _ _ h => h) (Or.inr ⟨by rfl, rfl⟩) ?_ ?_
               rotate_left
               ·
                simp only [Act.put, q_row, q_zero, q_succ, i64_w, i32_w]
                rfl
               refine pure_ (i := 15) (N := some 94) (v := undef) (a' := ?_) #[true, true, true, true, true, true, true, true, true, true, true, true, true, true, true, true, false, false, false, false, false, false, false, false, false, false, false, false, false] rfl rfl (any_of HT_.out (by kernel_rfl)) (fun _ _ _ h => h) (Or.inr ⟨by rfl, rfl⟩) ?_ ?_
               rotate_left
               ·
                simp only [Act.put, q_row, q_zero, q_succ, i64_w, i32_w]
                rfl
               refine pure_ (i := 16) (N := some 95) (v := undef) (a' := ?_) #[true, true, true, true, true, true, true, true, true, true, true, true, true, true, true, true, true, false, false, false, false, false, false, false, false, false, false, false, false] rfl rfl (any_of HT_.out (by kernel_rfl)) (fun _ _ _ h => h) (Or.inr ⟨by rfl, rfl⟩) ?_ ?_
               rotate_left
               ·
                simp only [Act.put, q_row, q_zero, q_succ, i64_w, i32_w]
                rfl
               refine pure_ (i := 17) (N := some 96) (v := undef) (a' := ?_) #[true, true, true, true, true, true, true, true, true, true, true, true, true, true, true, true, true, true, false, false, false, false, false, false, false, false, false, false, false] rfl rfl (any_of HT_.out (by kernel_rfl)) (fun _ _ _ h => h) (Or.inr ⟨by rfl, rfl⟩) ?_ ?_
               rotate_left
               ·
                simp only [Act.put, q_row, q_zero, q_succ, i64_w, i32_w]
                rfl
               refine pure_ (i := 18) (N := some 97) (v := undef) (a' := ?_) #[true, true, true, true, true, true, true, true, true, true, true, true, true, true, true, true, true, true, true, false, false, false, false, false, false, false, false, false, false] rfl rfl (any_of HT_.out (by kernel_rfl)) (fun _ _ _ h => h) (Or.inr ⟨by rfl, rfl⟩) ?_ ?_
               rotate_left
               ·
                simp only [Act.put, q_row, q_zero, q_succ, i64_w, i32_w]
                rfl
               refine pure_ (i := 19) (N := some 98) (v := undef) (a' := ?_) #[true, true, true, true, true, true, true, true, true, true, true, true, true, true, true, true, true, true, true, true, false, false, false, false, false, false, false, false, false] rfl rfl (any_of HT_.out (by kernel_rfl)) (fun _ _ _ h => h) (Or.inr ⟨by rfl, rfl⟩) ?_ ?_
               rotate_left
               ·
                simp only [Act.put, q_row, q_zero, q_succ, i64_w, i32_w]
                rfl
               refine pure_ (i := 20) (N := some 99) (v := undef) (a' := ?_) #[true, true, true, true, true, true, true, true, true, true, true, true, true, true, true, true, true, true, true, true, true, false, false, false, false, false, false, false, false] rfl rfl (any_of HT_.out (by kernel_rfl)) (fun _ _ _ h => h) (Or.inr ⟨by rfl, rfl⟩) ?_ ?_
               rotate_left
               ·
                simp only [Act.put, q_row, q_zero, q_succ, i64_w, i32_w]
                rfl
               refine pure_ (i := 21) (N := some 100) (v := undef) (a' := ?_) #[true, true, true, true, true, true, true, true, true, true, true, true, true, true, true, true, true, true, true, true, true, true, false, false, false, false, false, false, false] rfl rfl (any_of HT_.out (by kernel_rfl)) (fun _ _ _ h => h) (Or.inr ⟨by rfl, rfl⟩) ?_ ?_
               rotate_left
               ·
                simp only [Act.put, q_row, q_zero, q_succ, i64_w, i32_w]
                rfl
               refine pure_ (i := 22) (N := some 101) (v := undef) (a' := ?_) #[true, true, true, true, true, true, true, true, true, true, true, true, true, true, true, true, true, true, true, true, true, true, true, false, false, false, false, false, false] rfl rfl (any_of HT_.out (by kernel_rfl)) (fun _ _ _ h => h) (Or.inr ⟨by rfl, rfl⟩) ?_ ?_
               rotate_left
               ·
                simp only [Act.put, q_row, q_zero, q_succ, i64_w, i32_w]
                rfl
               refine pure_ (i := 23) (N := some 102) (v := undef) (a' := ?_) #[true, true, true, true, true, true, true, true, true, true, true, true, true, true, true, true, true, true, true, true, true, true, true, true, false, false, false, false, false] rfl rfl (any_of HT_.out (by kernel_rfl)) (fun _ _ _ h => h) (Or.inr ⟨by rfl, rfl⟩) ?_ ?_
               rotate_left
               ·
                simp only [Act.put, q_row, q_zero, q_succ, i64_w, i32_w]
                rfl
               refine pure_ (i := 24) (N := some 103) (v := undef) (a' := ?_) #[true, true, true, true, true, true, true, true, true, true, true, true, true, true, true, true, true, true, true, true, true, true, true, true, true, false, false, false, false] rfl rfl (any_of HT_.out (by kernel_rfl)) (fun _ _ _ h => h) (Or.inr ⟨by rfl, rfl⟩) ?_ ?_
               rotate_left
               ·
                simp only [Act.put, q_row, q_zero, q_succ, i64_w, i32_w]
                rfl
               refine pure_ (i := 25) (N := some 104) (v := undef) (a' := ?_) #[true, true, true, true, true, true, true, true, true, true, true, true, true, true, true, true, true, true, true, true, true, true, true, true, true, true, false, false, false] rfl rfl (any_of HT_.out (by kernel_rfl)) (fun _ _ _ h => h) (Or.inr ⟨by rfl, rfl⟩) ?_ ?_
               rotate_left
               ·
                simp only [Act.put, q_row, q_zero, q_succ, i64_w, i32_w]
                rfl
               refine pure_ (i := 26) (N := some 105) (v := undef) (a' := ?_) #[true, true, true, true, true, true, true, true, true, true, true, true, true, true, true, true, true, true, true, true, true, true, true, true, true, true, true, false, false] rfl rfl (any_of HT_.out (by kernel_rfl)) (fun _ _ _ h => h) (Or.inr ⟨by rfl, rfl⟩) ?_ ?_
               rotate_left
               ·
                simp only [Act.put, q_row, q_zero, q_succ, i64_w, i32_w]
                rfl
               refine pure_ (i := 27) (N := some 106) (v := undef) (a' := ?_) #[true, true, true, true, true, true, true, true, true, true, true, true, true, true, true, true, true, true, true, true, true, true, true, true, true, true, true, true, false] rfl rfl (any_of HT_.out (by kernel_rfl)) (fun _ _ _ h => h) (Or.inr ⟨by rfl, rfl⟩) ?_ ?_
               rotate_left
               ·
                simp only [Act.put, q_row, q_zero, q_succ, i64_w, i32_w]
                rfl
               refine pure_ (i := 28) (N := some 107) (v := ?_) (a' := ?_) #[true, true, true, true, true, true, true, true, true, true, true, true, true, true, true, true, true, true, true, true, true, true, true, true, true, true, true, true, true] rfl rfl (any_of HT_.out (by kernel_rfl)) (fun _ _ _ h => h) (Or.inl ⟨by rfl, ?_⟩) ?_ ?_
               rotate_left
               · intro w'; go_simp; with_reducible rfl
               rotate_left
               ·
                simp only [Act.put, q_row, q_zero, q_succ, i64_w, i32_w]
                rfl
               refine done_ (done_of HT_.out (by kernel_rfl)) ?_
               try go_wp2
               go_meet
               case rel => exact ⟨_, (false), (by first | rfl | (simp; done) | (simp [*]; done)), H', ⟨by have := HJ6.out; have := HJ19.out; have := HK3.out; first | omega | exact Nat.le_refl _⟩, ⟨by (with_reducible repeat (first | apply Kd.S_alloc | apply Kd.S_drewN | apply Kd.S_drew)); exact HO_5.out⟩, ⟨by (with_reducible repeat (first | apply Kd.S_alloc | apply Kd.S_drewN | apply Kd.S_drew)); exact HO_8.out⟩, ⟨by (with_reducible repeat (first | apply Kd.S_alloc | apply Kd.S_drewN | apply Kd.S_drew)); exact HO_11.out⟩, ⟨by repeat (first | (with_reducible first | exact HB.out | apply below_alloc | apply pw_below_drewN | apply below_drew1) | exact HB.out)⟩⟩
             case rest =>
              clear HC28
              try clear c1
              try clear p1
              try clear q1
              try clear hx1
              try clear c2
              try clear p2
              try clear c3
              try clear c17
              try clear p17
              try clear q17
              try clear hx17
              try clear c21
              try clear c30
              try clear c30b0
              try clear c31
              try clear c33
              try clear hx178_0
              try clear hx178_1
              try clear hx178_2
              try clear hx178_3
              try clear hx178_4
              try clear hx179_0
              try clear hx179_1
              try clear hx179_2
              try clear hx179_3
              try clear hx179_4
              try clear p178
              try clear p179
              try clear q178
              try clear q179
              obtain ⟨kq, x107_27, rfl, HA, HJ27, HO_5, HO_8, HO_11, HB⟩ := hcut
              cases kq with
              | zero => exact absurd HA.out (by simp [rookerylaw15_LexJoins.j3])
              | succ kj27 =>
               have H := HA.out
               clear HA
               simp only [rookerylaw15_LexJoins.j3] at H
               by_cases c42 : x107_27 = true
               ·
                subst c42
                have H1 : (some false) = some r := by rw [if_pos rfl] at H; exact H
                clear H
                have H := H1
                clear H1
                obtain rfl := Option.some.inj H
                go_wp2
                go_ret
                exact ⟨by first | rfl | (simp [errW_none, errW_some] <;> rfl) | (simp [*, errW_none, errW_some] <;> rfl), by repeat (first | (with_reducible first | exact HB.out | apply below_alloc | apply pw_below_drewN | apply below_drew1) | exact HB.out)⟩
               ·
                replace c42 := Bool.eq_false_iff.mpr c42
                subst c42
                have H1 : (if x14_3 ≥ (t163.length : Int) then (if 0 ≤ x14_3 then (if x14_3 < (t173.length : Int) then (if 0 ≤ (wrap64 (x14_3 - (t163.length : Int))) then (if (wrap64 (x14_3 - (t163.length : Int))) < (t168.length : Int) then ((rookeryref15_Same.f ((rd_T33 t173 x14_3).f0) ((rd_T33 t173 x14_3).f1) ((rd_T33 t173 x14_3).f2) ((rd_T33 t173 x14_3).f3) ((rd_T33 t173 x14_3).f4) ((rd_T33 t168 (wrap64 (x14_3 - (t163.length : Int)))).f0) ((rd_T33 t168 (wrap64 (x14_3 - (t163.length : Int)))).f1) ((rd_T33 t168 (wrap64 (x14_3 - (t163.length : Int)))).f2) ((rd_T33 t168 (wrap64 (x14_3 - (t163.length : Int)))).f3) ((rd_T33 t168 (wrap64 (x14_3 - (t163.length : Int)))).f4)).bind fun t185 => (if t185 = true then (if ((rd_T33 t173 x14_3).f4) = (wrap64 ((wrap64 (((rd_T33 t168 (wrap64 (x14_3 - (t163.length : Int)))).f4) + (a0.size : Int))) + 1)) then (rookerylaw15_LexJoins.l0 kj27 a0 t163 t168 t173 (wrap64 (x14_3 + 1))) else (some false)) else (some false))) else (none)) else (none)) else (none)) else (none)) else (rookerylaw15_LexJoins.l0 kj27 a0 t163 t168 t173 (wrap64 (x14_3 + 1)))) = some r := by rw [if_neg (show ¬ (false = true) by decide)] at H; exact H
                clear H
                have H := H1
                clear H1
                by_cases c43 : x14_3 ≥ (t163.length : Int)
                ·
                 rw [if_pos c43] at H
                 have c43b0 : decide ((t163.length : Int) ≤ x14_3) = true := decide_eq_true c43
                 clear c43
                 by_cases c44 : 0 ≤ x14_3
                 ·
                  rw [if_pos c44] at H
                  have c44b0 : decide (0 ≤ x14_3) = true := decide_eq_true c44
                  clear c44
                  by_cases c45 : x14_3 < (t173.length : Int)
                  ·
                   rw [if_pos c45] at H
                   have c45b0 : decide (x14_3 < (t173.length : Int)) = true := decide_eq_true c45
                   clear c45
                   obtain ⟨ji46, hji46⟩ : ∃ j_ : Int, (wrap64 (x14_3 - (t163.length : Int))) = j_ := ⟨_, rfl⟩
                   replace H : (if 0 ≤ (ji46) then (if (ji46) < (t168.length : Int) then ((rookeryref15_Same.f ((rd_T33 t173 x14_3).f0) ((rd_T33 t173 x14_3).f1) ((rd_T33 t173 x14_3).f2) ((rd_T33 t173 x14_3).f3) ((rd_T33 t173 x14_3).f4) ((rd_T33 t168 (ji46)).f0) ((rd_T33 t168 (ji46)).f1) ((rd_T33 t168 (ji46)).f2) ((rd_T33 t168 (ji46)).f3) ((rd_T33 t168 (ji46)).f4)).bind fun t185 => (if t185 = true then (if ((rd_T33 t173 x14_3).f4) = (wrap64 ((wrap64 (((rd_T33 t168 (ji46)).f4) + (a0.size : Int))) + 1)) then (rookerylaw15_LexJoins.l0 kj27 a0 t163 t168 t173 (wrap64 (x14_3 + 1))) else (some false)) else (some false))) else (none)) else (none)) = some r := by first | (rw [hji46] at H; exact H) | (simp only [hji46] at H ⊢; exact H)
                   have hji46w : (IntKind.i64.wrap (x14_3 - (t163.length : Int))) = ji46 := (i64_w _).trans hji46
                   by_cases c47 : 0 ≤ (ji46)
                   ·
                    rw [if_pos c47] at H
                    have c47b0 : decide (0 ≤ (ji46)) = true := decide_eq_true c47
                    clear c47
                    by_cases c48 : (ji46) < (t168.length : Int)
                    ·
                     rw [if_pos c48] at H
                     have c48b0 : decide ((ji46) < (t168.length : Int)) = true := decide_eq_true c48
                     clear c48
                     replace H := Option.bind_eq_some_iff.mp H
                     obtain ⟨t185, A490, H⟩ := H
                     replace H : (if t185 = true then (if ((rd_T33 t173 x14_3).f4) = (wrap64 ((wrap64 (((rd_T33 t168 (ji46)).f4) + (a0.size : Int))) + 1)) then (rookerylaw15_LexJoins.l0 kj27 a0 t163 t168 t173 (wrap64 (x14_3 + 1))) else (some false)) else (some false)) = some r := H
                     have A49 := Aside0.mk A490
                     clear A490
                     by_cases c50 : t185 = true
                     ·
                      subst c50
                      have H1 : (if ((rd_T33 t173 x14_3).f4) = (wrap64 ((wrap64 (((rd_T33 t168 (ji46)).f4) + (a0.size : Int))) + 1)) then (rookerylaw15_LexJoins.l0 kj27 a0 t163 t168 t173 (wrap64 (x14_3 + 1))) else (some false)) = some r := by rw [if_pos rfl] at H; exact H
                      clear H
                      have H := H1
                      clear H1
                      by_cases c51 : ((rd_T33 t173 x14_3).f4) = (wrap64 ((wrap64 (((rd_T33 t168 (ji46)).f4) + (a0.size : Int))) + 1))
                      ·
                       rw [if_pos c51] at H
                       have c51b0 : (((rd_T33 t173 x14_3).f4) == (wrap64 ((wrap64 (((rd_T33 t168 (ji46)).f4) + (a0.size : Int))) + 1))) = true := beq_iff_eq.mpr c51
                       have c51b1 : (((rd_T33 t173 x14_3).f4) != (wrap64 ((wrap64 (((rd_T33 t168 (ji46)).f4) + (a0.size : Int))) + 1))) = false := bne_eq_false_iff_eq.mpr c51
                       clear c51
                       have H' := Aside0.mk H
                       clear H
                       try go_wp2
                       have n0_ := Aside0.mk (Kd.S_drew HO_5.out)
                       have n1_ := Aside0.mk (Kd.S_drew HO_8.out)
                       have n2_ := Aside0.mk (Kd.S_drew HO_11.out)
                       have n3_ := Aside0.mk (below_drew1 HB.out)
                       clear HO_5
                       clear HO_8
                       clear HO_11
                       clear HB
                       have HO_5 := n0_
                       have HO_8 := n1_
                       have HO_11 := n2_
                       have HB := n3_
                       clear n0_ n1_ n2_ n3_
                       obtain ⟨Ao53, co53, eo53⟩ := Kd.S_slice HO_5.out
                       (first | subst eo53 | (injection eo53 with f1_ f2_ f3_; have f4_ := f1_.symm; have f5_ := f3_.symm; clear f1_ f2_ f3_; subst f4_; subst f5_))
                       have p183 : 0 ≤ (x14_3 : Int) := of_decide_eq_true (by first | (with_reducible assumption) | assumption)
                       have q183 : x14_3 < (t173.length : Int) := of_decide_eq_true (by first | (with_reducible assumption) | assumption)
                       obtain ⟨ad183, A183_3, c183_3, e183, hx183_0, hx183_1, hx183_2, hx183_3, hx183_4, hl183_3, hi183_3⟩ := at_T33 (Kd.S_reads' HO_11.out).2.2 x14_3 p183 q183
                       cases e183
                       obtain ⟨ce183, hce183, hMe183, hcc183⟩ := Kd.S_get HO_11.out z33 x14_3 p183 (by first | exact q183 | exact of_decide_eq_true (by first | (with_reducible assumption) | assumption) | (have e_ := (Kd.S_reads' HO_11.out).1; omega))
                       obtain ⟨ve183_3, rfl, ge183_3⟩ := k33_openM hMe183
                       have hv183_3 := hcc183 3 _ rfl
                       rw [add_field _ _ 3 (by omega)] at hv183_3
                       replace hv183_3 := Option.some.inj (hv183_3.symm.trans hx183_3)
                       rw [hv183_3] at ge183_3
                       have HL183_3 := Aside0.mk (show Kd.R (Kd.int .u8) 5 _ _ _ _ ((rd_T33 t173 x14_3).f3) from ge183_3)
                       clear hv183_3 ge183_3
                       clear hcc183 hce183
                       have HR183_3 := Aside0.mk hi183_3
                       have HC183_3 := Aside0.mk hl183_3
                       clear hi183_3 hl183_3
                       replace p183 := eq_true p183
                       replace q183 := eq_true q183
                       obtain ⟨Ao54, co54, eo54⟩ := Kd.S_slice HO_8.out
                       (first | subst eo54 | (injection eo54 with f1_ f2_ f3_; have f4_ := f1_.symm; have f5_ := f3_.symm; clear f1_ f2_ f3_; subst f4_; subst f5_))
                       have p184 : 0 ≤ ((ji46) : Int) := of_decide_eq_true (by first | (with_reducible assumption) | assumption)
                       have q184 : (ji46) < (t168.length : Int) := of_decide_eq_true (by first | (with_reducible assumption) | assumption)
                       obtain ⟨ad184, A184_3, c184_3, e184, hx184_0, hx184_1, hx184_2, hx184_3, hx184_4, hl184_3, hi184_3⟩ := at_T33 (Kd.S_reads' HO_8.out).2.2 (ji46) p184 q184
                       cases e184
                       obtain ⟨ce184, hce184, hMe184, hcc184⟩ := Kd.S_get HO_8.out z33 (ji46) p184 (by first | exact q184 | exact of_decide_eq_true (by first | (with_reducible assumption) | assumption) | (have e_ := (Kd.S_reads' HO_8.out).1; omega))
                       obtain ⟨ve184_3, rfl, ge184_3⟩ := k33_openM hMe184
                       have hv184_3 := hcc184 3 _ rfl
                       rw [add_field _ _ 3 (by omega)] at hv184_3
                       replace hv184_3 := Option.some.inj (hv184_3.symm.trans hx184_3)
                       rw [hv184_3] at ge184_3
                       have HL184_3 := Aside0.mk (show Kd.R (Kd.int .u8) 5 _ _ _ _ ((rd_T33 t168 (ji46)).f3) from ge184_3)
                       clear hv184_3 ge184_3
                       clear hcc184 hce184
                       have HR184_3 := Aside0.mk hi184_3
                       have HC184_3 := Aside0.mk hl184_3
                       clear hi184_3 hl184_3
                       replace p184 := eq_true p184
                       replace q184 := eq_true q184
                       have p186 : 0 ≤ (x14_3 : Int) := of_decide_eq_true (by first | (with_reducible assumption) | assumption)
                       have q186 : x14_3 < (t173.length : Int) := of_decide_eq_true (by first | (with_reducible assumption) | assumption)
                       obtain ⟨ad186, A186_3, c186_3, e186, hx186_0, hx186_1, hx186_2, hx186_3, hx186_4, hl186_3, hi186_3⟩ := at_T33 (Kd.S_reads' HO_11.out).2.2 x14_3 p186 q186
                       obtain rfl : ad183 = ad186 := (by injection e186)
                       obtain ⟨ce186, hce186, hMe186, hcc186⟩ := Kd.S_get HO_11.out z33 x14_3 p186 (by first | exact q186 | exact of_decide_eq_true (by first | (with_reducible assumption) | assumption) | (have e_ := (Kd.S_reads' HO_11.out).1; omega))
                       obtain ⟨ve186_3, rfl, ge186_3⟩ := k33_openM hMe186
                       have hv186_3 := hcc186 3 _ rfl
                       rw [add_field _ _ 3 (by omega)] at hv186_3
                       replace hv186_3 := Option.some.inj (hv186_3.symm.trans hx186_3)
                       rw [hv186_3] at ge186_3
                       have HL186_3 := Aside0.mk (show Kd.R (Kd.int .u8) 5 _ _ _ _ ((rd_T33 t173 x14_3).f3) from ge186_3)
                       clear hv186_3 ge186_3
                       clear hcc186 hce186
                       have HR186_3 := Aside0.mk hi186_3
                       have HC186_3 := Aside0.mk hl186_3
                       clear hi186_3 hl186_3
                       replace p186 := eq_true p186
                       replace q186 := eq_true q186
                       have p187 : 0 ≤ ((ji46) : Int) := of_decide_eq_true (by first | (with_reducible assumption) | assumption)
                       have q187 : (ji46) < (t168.length : Int) := of_decide_eq_true (by first | (with_reducible assumption) | assumption)
                       obtain ⟨ad187, A187_3, c187_3, e187, hx187_0, hx187_1, hx187_2, hx187_3, hx187_4, hl187_3, hi187_3⟩ := at_T33 (Kd.S_reads' HO_8.out).2.2 (ji46) p187 q187
                       obtain rfl : ad184 = ad187 := (by injection e187)
                       obtain ⟨ce187, hce187, hMe187, hcc187⟩ := Kd.S_get HO_8.out z33 (ji46) p187 (by first | exact q187 | exact of_decide_eq_true (by first | (with_reducible assumption) | assumption) | (have e_ := (Kd.S_reads' HO_8.out).1; omega))
                       obtain ⟨ve187_3, rfl, ge187_3⟩ := k33_openM hMe187
                       have hv187_3 := hcc187 3 _ rfl
                       rw [add_field _ _ 3 (by omega)] at hv187_3
                       replace hv187_3 := Option.some.inj (hv187_3.symm.trans hx187_3)
                       rw [hv187_3] at ge187_3
                       have HL187_3 := Aside0.mk (show Kd.R (Kd.int .u8) 5 _ _ _ _ ((rd_T33 t168 (ji46)).f3) from ge187_3)
                       clear hv187_3 ge187_3
                       clear hcc187 hce187
                       have HR187_3 := Aside0.mk hi187_3
                       have HC187_3 := Aside0.mk hl187_3
                       clear hi187_3 hl187_3
                       replace p187 := eq_true p187
                       replace q187 := eq_true q187
                       refine start_ (n := 39) (S := fun w' => w'.cell? (ad183.add ((x14_3).toNat * 5)) = some (.int .i64 ((rd_T33 t173 x14_3).f0)) ∧ w'.cell? ⟨(ad183.add ((x14_3).toNat * 5)).block, (ad183.add ((x14_3).toNat * 5)).off + 1, none⟩ = some (.string ((rd_T33 t173 x14_3).f1)) ∧ w'.cell? ⟨(ad183.add ((x14_3).toNat * 5)).block, (ad183.add ((x14_3).toNat * 5)).off + 2, none⟩ = some (.int .i64 ((rd_T33 t173 x14_3).f2)) ∧ w'.cell? ⟨(ad183.add ((x14_3).toNat * 5)).block, (ad183.add ((x14_3).toNat * 5)).off + 3, none⟩ = some (.slice A183_3 ((rd_T33 t173 x14_3).f3).length c183_3) ∧ w'.cell? ⟨(ad183.add ((x14_3).toNat * 5)).block, (ad183.add ((x14_3).toNat * 5)).off + 4, none⟩ = some (.int .i64 ((rd_T33 t173 x14_3).f4)) ∧ w'.cell? (ad184.add (((ji46)).toNat * 5)) = some (.int .i64 ((rd_T33 t168 (ji46)).f0)) ∧ w'.cell? ⟨(ad184.add (((ji46)).toNat * 5)).block, (ad184.add (((ji46)).toNat * 5)).off + 1, none⟩ = some (.string ((rd_T33 t168 (ji46)).f1)) ∧ w'.cell? ⟨(ad184.add (((ji46)).toNat * 5)).block, (ad184.add (((ji46)).toNat * 5)).off + 2, none⟩ = some (.int .i64 ((rd_T33 t168 (ji46)).f2)) ∧ w'.cell? ⟨(ad184.add (((ji46)).toNat * 5)).block, (ad184.add (((ji46)).toNat * 5)).off + 3, none⟩ = some (.slice A184_3 ((rd_T33 t168 (ji46)).f3).length c184_3) ∧ w'.cell? ⟨(ad184.add (((ji46)).toNat * 5)).block, (ad184.add (((ji46)).toNat * 5)).off + 4, none⟩ = some (.int .i64 ((rd_T33 t168 (ji46)).f4)) ∧ w'.cell? (ad183.add ((x14_3).toNat * 5)) = some (.int .i64 ((rd_T33 t173 x14_3).f0)) ∧ w'.cell? ⟨(ad183.add ((x14_3).toNat * 5)).block, (ad183.add ((x14_3).toNat * 5)).off + 1, none⟩ = some (.string ((rd_T33 t173 x14_3).f1)) ∧ w'.cell? ⟨(ad183.add ((x14_3).toNat * 5)).block, (ad183.add ((x14_3).toNat * 5)).off + 2, none⟩ = some (.int .i64 ((rd_T33 t173 x14_3).f2)) ∧ w'.cell? ⟨(ad183.add ((x14_3).toNat * 5)).block, (ad183.add ((x14_3).toNat * 5)).off + 3, none⟩ = some (.slice A186_3 ((rd_T33 t173 x14_3).f3).length c186_3) ∧ w'.cell? ⟨(ad183.add ((x14_3).toNat * 5)).block, (ad183.add ((x14_3).toNat * 5)).off + 4, none⟩ = some (.int .i64 ((rd_T33 t173 x14_3).f4)) ∧ w'.cell? (ad184.add (((ji46)).toNat * 5)) = some (.int .i64 ((rd_T33 t168 (ji46)).f0)) ∧ w'.cell? ⟨(ad184.add (((ji46)).toNat * 5)).block, (ad184.add (((ji46)).toNat * 5)).off + 1, none⟩ = some (.string ((rd_T33 t168 (ji46)).f1)) ∧ w'.cell? ⟨(ad184.add (((ji46)).toNat * 5)).block, (ad184.add (((ji46)).toNat * 5)).off + 2, none⟩ = some (.int .i64 ((rd_T33 t168 (ji46)).f2)) ∧ w'.cell? ⟨(ad184.add (((ji46)).toNat * 5)).block, (ad184.add (((ji46)).toNat * 5)).off + 3, none⟩ = some (.slice A187_3 ((rd_T33 t168 (ji46)).f3).length c187_3) ∧ w'.cell? ⟨(ad184.add (((ji46)).toNat * 5)).block, (ad184.add (((ji46)).toNat * 5)).off + 4, none⟩ = some (.int .i64 ((rd_T33 t168 (ji46)).f4))) (ds := []) #[false, false, false, false, false, false, false, false, false, false, false, false, false, false, false, false, false, false, false, false, false, false, false, false, false, false, false, false, false, false, false, false, false, false, false, false, false, false, false] (by kernel_rfl) rfl rfl ⟨hx183_0, hx183_1, hx183_2, hx183_3, hx183_4, hx184_0, hx184_1, hx184_2, hx184_3, hx184_4, hx186_0, hx186_1, hx186_2, hx186_3, hx186_4, hx187_0, hx187_1, hx187_2, hx187_3, hx187_4⟩ (fun hHeld => ?_); refine with_tabW rookerylaw15_LexJoins.tab15 rookerylaw15_LexJoins.bits15 (fun HT_ HW_ => ?_)
                       generalize wc.drew = w52 at HO_5 HO_8 HO_11 HB HL183_3 HL184_3 HL186_3 HL187_3 HR183_3 HR184_3 HR186_3 HR187_3 hx183_0 hx183_1 hx183_2 hx183_3 hx183_4 hx184_0 hx184_1 hx184_2 hx184_3 hx184_4 hx186_0 hx186_1 hx186_2 hx186_3 hx186_4 hx187_0 hx187_1 hx187_2 hx187_3 hx187_4 hHeld ⊢
                       refine pure_ (i := 0) (N := some 108) (v := ?_) (a' := ?_) #[true, false, false, false, false, false, false, false, false, false, false, false, false, false, false, false, false, false, false, false, false, false, false, false, false, false, false, false, false, false, false, false, false, false, false, false, false, false, false] rfl rfl (any_of HT_.out (by kernel_rfl)) (fun _ _ _ h => h) (Or.inl ⟨by rfl, ?_⟩) ?_ ?_
                       rotate_left
                       · intro w'; go_simp; with_reducible rfl
                       rotate_left
                       ·
                        simp only [Act.put, q_row, q_zero, q_succ, i64_w, i32_w]
                        rfl
                       refine pure_ (i := 1) (N := some 109) (v := ?_) (a' := ?_) #[true, true, false, false, false, false, false, false, false, false, false, false, false, false, false, false, false, false, false, false, false, false, false, false, false, false, false, false, false, false, false, false, false, false, false, false, false, false, false] rfl rfl (any_of HT_.out (by kernel_rfl)) (fun _ _ _ h => h) (Or.inl ⟨by rfl, ?_⟩) ?_ ?_
                       rotate_left
                       · intro w'; go_simp; with_reducible rfl
                       rotate_left
                       ·
                        simp only [Act.put, q_row, q_zero, q_succ, i64_w, i32_w]
                        rfl
                       refine pure_ (i := 2) (N := some 110) (v := ?_) (a' := ?_) #[true, true, true, false, false, false, false, false, false, false, false, false, false, false, false, false, false, false, false, false, false, false, false, false, false, false, false, false, false, false, false, false, false, false, false, false, false, false, false] rfl rfl (any_of HT_.out (by kernel_rfl)) (fun _ _ _ h => h) (Or.inl ⟨by rfl, ?_⟩) ?_ ?_
                       rotate_left
                       · intro w'; go_simp; with_reducible rfl
                       rotate_left
                       ·
                        simp only [Act.put, q_row, q_zero, q_succ, i64_w, i32_w]
                        rfl
                       refine pure_ (i := 3) (N := some 111) (v := ?_) (a' := ?_) #[true, true, true, true, false, false, false, false, false, false, false, false, false, false, false, false, false, false, false, false, false, false, false, false, false, false, false, false, false, false, false, false, false, false, false, false, false, false, false] rfl rfl (any_of HT_.out (by kernel_rfl)) (fun _ _ _ h => h) (Or.inl ⟨by rfl, ?_⟩) ?_ ?_
                       rotate_left
                       · intro w'; go_simp; with_reducible rfl
                       rotate_left
                       ·
                        simp only [Act.put, q_row, q_zero, q_succ, i64_w, i32_w]
                        rfl
                       refine pure_ (i := 4) (N := some 112) (v := ?_) (a' := ?_) #[true, true, true, true, true, false, false, false, false, false, false, false, false, false, false, false, false, false, false, false, false, false, false, false, false, false, false, false, false, false, false, false, false, false, false, false, false, false, false] rfl rfl (any_of HT_.out (by kernel_rfl)) (fun _ _ _ h => h) (Or.inl ⟨by rfl, ?_⟩) ?_ ?_
                       rotate_left
                       · intro w'; go_simp; with_reducible rfl
                       rotate_left
                       ·
                        simp only [Act.put, q_row, q_zero, q_succ, i64_w, i32_w]
                        rfl
                       refine pure_ (i := 5) (N := some 113) (v := ?_) (a' := ?_) #[true, true, true, true, true, true, false, false, false, false, false, false, false, false, false, false, false, false, false, false, false, false, false, false, false, false, false, false, false, false, false, false, false, false, false, false, false, false, false] rfl rfl (any_of HT_.out (by kernel_rfl)) (fun _ _ _ h => h) (Or.inl ⟨by rfl, ?_⟩) ?_ ?_
                       rotate_left
                       · intro w'; go_simp; with_reducible rfl
                       rotate_left
                       ·
                        simp only [Act.put, q_row, q_zero, q_succ, i64_w, i32_w]
                        rfl
                       refine pure_ (i := 6) (N := some 114) (v := ?_) (a' := ?_) #[true, true, true, true, true, true, true, false, false, false, false, false, false, false, false, false, false, false, false, false, false, false, false, false, false, false, false, false, false, false, false, false, false, false, false, false, false, false, false] rfl rfl (any_of HT_.out (by kernel_rfl)) (fun _ _ _ h => h) (Or.inl ⟨by rfl, ?_⟩) ?_ ?_
                       rotate_left
                       · intro w'; go_simp; with_reducible rfl
                       rotate_left
                       ·
                        simp only [Act.put, q_row, q_zero, q_succ, i64_w, i32_w]
                        rfl
                       refine pure_ (i := 7) (N := some 115) (v := ?_) (a' := ?_) #[true, true, true, true, true, true, true, true, false, false, false, false, false, false, false, false, false, false, false, false, false, false, false, false, false, false, false, false, false, false, false, false, false, false, false, false, false, false, false] rfl rfl (any_of HT_.out (by kernel_rfl)) (fun _ _ _ h => h) (Or.inl ⟨by rfl, ?_⟩) ?_ ?_
                       rotate_left
                       · intro w'; go_simp; with_reducible rfl
                       rotate_left
                       ·
                        simp only [Act.put, q_row, q_zero, q_succ, i64_w, i32_w]
                        rfl
                       refine pure_ (i := 9) (N := some 117) (v := ?_) (a' := ?_) #[true, true, true, true, true, true, true, true, false, true, false, false, false, false, false, false, false, false, false, false, false, false, false, false, false, false, false, false, false, false, false, false, false, false, false, false, false, false, false] rfl rfl (any_of HT_.out (by kernel_rfl)) (fun _ _ _ h => h) (Or.inl ⟨by rfl, ?_⟩) ?_ ?_
                       rotate_left
                       · intro w'; go_simp; with_reducible rfl
                       rotate_left
                       ·
                        simp only [Act.put, q_row, q_zero, q_succ, i64_w, i32_w]
                        rfl
                       refine pure_ (i := 10) (N := some 118) (v := ?_) (a' := ?_) #[true, true, true, true, true, true, true, true, false, true, true, false, false, false, false, false, false, false, false, false, false, false, false, false, false, false, false, false, false, false, false, false, false, false, false, false, false, false, false] rfl rfl (any_of HT_.out (by kernel_rfl)) (fun _ _ _ h => h) (Or.inl ⟨by rfl, ?_⟩) ?_ ?_
                       rotate_left
                       · intro w'; go_simp; with_reducible rfl
                       rotate_left
                       ·
                        simp only [Act.put, q_row, q_zero, q_succ, i64_w, i32_w]
                        rfl
                       refine pure_ (i := 11) (N := some 119) (v := ?_) (a' := ?_) #[true, true, true, true, true, true, true, true, false, true, true, true, false, false, false, false, false, false, false, false, false, false, false, false, false, false, false, false, false, false, false, false, false, false, false, false, false, false, false] rfl rfl (any_of HT_.out (by kernel_rfl)) (fun _ _ _ h => h) (Or.inl ⟨by rfl, ?_⟩) ?_ ?_
                       rotate_left
                       · intro w'; go_simp; with_reducible rfl
                       rotate_left
                       ·
                        simp only [Act.put, q_row, q_zero, q_succ, i64_w, i32_w]
                        rfl
                       refine pure_ (i := 12) (N := some 120) (v := ?_) (a' := ?_) #[true, true, true, true, true, true, true, true, false, true, true, true, true, false, false, false, false, false, false, false, false, false, false, false, false, false, false, false, false, false, false, false, false, false, false, false, false, false, false] rfl rfl (any_of HT_.out (by kernel_rfl)) (fun _ _ _ h => h) (Or.inl ⟨by rfl, ?_⟩) ?_ ?_
                       rotate_left
                       · intro w'; go_simp; with_reducible rfl
                       rotate_left
                       ·
                        simp only [Act.put, q_row, q_zero, q_succ, i64_w, i32_w]
                        rfl
                       refine pure_ (i := 13) (N := some 121) (v := ?_) (a' := ?_) #[true, true, true, true, true, true, true, true, false, true, true, true, true, true, false, false, false, false, false, false, false, false, false, false, false, false, false, false, false, false, false, false, false, false, false, false, false, false, false] rfl rfl (any_of HT_.out (by kernel_rfl)) (fun _ _ _ h => h) (Or.inl ⟨by rfl, ?_⟩) ?_ ?_
                       rotate_left
                       · intro w'; go_simp; with_reducible rfl
                       rotate_left
                       ·
                        simp only [Act.put, q_row, q_zero, q_succ, i64_w, i32_w]
                        rfl
                       refine pure_ (i := 14) (N := some 122) (v := ?_) (a' := ?_) #[true, true, true, true, true, true, true, true, false, true, true, true, true, true, true, false, false, false, false, false, false, false, false, false, false, false, false, false, false, false, false, false, false, false, false, false, false, false, false] rfl rfl (any_of HT_.out (by kernel_rfl)) (fun _ _ _ h => h) (Or.inl ⟨by rfl, ?_⟩) ?_ ?_
                       rotate_left
                       · intro w'; go_simp; with_reducible rfl
                       rotate_left
                       ·
                        simp only [Act.put, q_row, q_zero, q_succ, i64_w, i32_w]
                        rfl
                       refine take_ (i := 8) (N := some 116) (v := ?_) (a' := ?_) #[true, true, true, true, true, true, true, true, true, true, true, true, true, true, true, false, false, false, false, false, false, false, false, false, false, false, false, false, false, false, false, false, false, false, false, false, false, false, false] rfl rfl (take_ofW HT_.out HW_.out (by kernel_rfl)) (fun _ _ _ h => h) (Or.inl ⟨by rfl, ?_⟩) hHeld ?_ ?_
                       rotate_left
                       ·
                        rintro w' ⟨s0, s1, s2, s3, s4, s5, s6, s7, s8, s9, s10, s11, s12, s13, s14, s15, s16, s17, s18, s19⟩
                        go_simp
                        with_reducible rfl
                       rotate_left
                       ·
                        simp only [Act.put, q_row, q_zero, q_succ, i64_w, i32_w]
                        rfl
                       refine take_ (i := 15) (N := some 123) (v := ?_) (a' := ?_) #[true, true, true, true, true, true, true, true, true, true, true, true, true, true, true, true, false, false, false, false, false, false, false, false, false, false, false, false, false, false, false, false, false, false, false, false, false, false, false] rfl rfl (take_ofW HT_.out HW_.out (by kernel_rfl)) (fun _ _ _ h => h) (Or.inl ⟨by rfl, ?_⟩) hHeld ?_ ?_
                       rotate_left
                       ·
                        rintro w' ⟨s0, s1, s2, s3, s4, s5, s6, s7, s8, s9, s10, s11, s12, s13, s14, s15, s16, s17, s18, s19⟩
                        go_simp
                        with_reducible rfl
                       rotate_left
                       ·
                        simp only [Act.put, q_row, q_zero, q_succ, i64_w, i32_w]
                        rfl
                       refine one_ (i := 16) (N := some 124) #[true, true, true, true, true, true, true, true, true, true, true, true, true, true, true, true, true, false, false, false, false, false, false, false, false, false, false, false, false, false, false, false, false, false, false, false, false, false, false] rfl rfl (one_of HT_.out (by kernel_rfl)) (by decide) (fun K hK => ?_)
                       refine goes_ Tryd.func21 (by kernel_rfl) rfl #[.agg #[.int .i64 ((rd_T33 t173 x14_3).f0), .string ((rd_T33 t173 x14_3).f1), .int .i64 ((rd_T33 t173 x14_3).f2), .slice A183_3 ((rd_T33 t173 x14_3).f3).length c183_3, .int .i64 ((rd_T33 t173 x14_3).f4)], .agg #[.int .i64 ((rd_T33 t168 (ji46)).f0), .string ((rd_T33 t168 (ji46)).f1), .int .i64 ((rd_T33 t168 (ji46)).f2), .slice A184_3 ((rd_T33 t168 (ji46)).f3).length c184_3, .int .i64 ((rd_T33 t168 (ji46)).f4)]] (by rfl) rfl rfl (by (try simp only [List.map_toArray, List.map_cons, List.map_nil]); first | done | (simp only [hji46]; rfl) | rfl | (simp only [List.length_drop, List.length_take]; rfl)) ?_
                       with_reducible refine (rookeryref15_Same.calls ((rd_T33 t173 x14_3).f0) ((rd_T33 t173 x14_3).f1) ((rd_T33 t173 x14_3).f2) _ _ ((rd_T33 t173 x14_3).f3) ((rd_T33 t173 x14_3).f4) ((rd_T33 t168 (ji46)).f0) ((rd_T33 t168 (ji46)).f1) ((rd_T33 t168 (ji46)).f2) _ _ ((rd_T33 t168 (ji46)).f3) ((rd_T33 t168 (ji46)).f4) true _ ?side1 ?side2 ?side3 ?side4 A49.out).mono ?_
                       (case side1 => repeat (first | exact (by repeat (first | (with_reducible exact HR183_3.out) | (with_reducible refine Kd.C_alloc ?_ _) | (with_reducible refine Kd.C_drewN ?_ _) | (with_reducible refine Kd.C_drew ?_) | exact HR183_3.out)) | (with_reducible refine Kd.C_alloc ?_ _) | (with_reducible refine Kd.C_drewN ?_ _) | (with_reducible refine Kd.C_drew ?_)))
                       (case side2 => exact HC183_3.out)
                       (case side3 => repeat (first | exact (by repeat (first | (with_reducible exact HR184_3.out) | (with_reducible refine Kd.C_alloc ?_ _) | (with_reducible refine Kd.C_drewN ?_ _) | (with_reducible refine Kd.C_drew ?_) | exact HR184_3.out)) | (with_reducible refine Kd.C_alloc ?_ _) | (with_reducible refine Kd.C_drewN ?_ _) | (with_reducible refine Kd.C_drew ?_)))
                       (case side4 => exact HC184_3.out)
                       rintro e w55 ⟨rfl, hb⟩
                       have HS0_ := (hb.cell (World.block_lt_of_cell? _ _ (hHeld.1))).trans (hHeld.1)
                       have HS1_ := (hb.cell (World.block_lt_of_cell? _ _ (hHeld.2.1))).trans (hHeld.2.1)
                       have HS2_ := (hb.cell (World.block_lt_of_cell? _ _ (hHeld.2.2.1))).trans (hHeld.2.2.1)
                       have HS3_ := (hb.cell (World.block_lt_of_cell? _ _ (hHeld.2.2.2.1))).trans (hHeld.2.2.2.1)
                       have HS4_ := (hb.cell (World.block_lt_of_cell? _ _ (hHeld.2.2.2.2.1))).trans (hHeld.2.2.2.2.1)
                       have HS5_ := (hb.cell (World.block_lt_of_cell? _ _ (hHeld.2.2.2.2.2.1))).trans (hHeld.2.2.2.2.2.1)
                       have HS6_ := (hb.cell (World.block_lt_of_cell? _ _ (hHeld.2.2.2.2.2.2.1))).trans (hHeld.2.2.2.2.2.2.1)
                       have HS7_ := (hb.cell (World.block_lt_of_cell? _ _ (hHeld.2.2.2.2.2.2.2.1))).trans (hHeld.2.2.2.2.2.2.2.1)
                       have HS8_ := (hb.cell (World.block_lt_of_cell? _ _ (hHeld.2.2.2.2.2.2.2.2.1))).trans (hHeld.2.2.2.2.2.2.2.2.1)
                       have HS9_ := (hb.cell (World.block_lt_of_cell? _ _ (hHeld.2.2.2.2.2.2.2.2.2.1))).trans (hHeld.2.2.2.2.2.2.2.2.2.1)
                       have HS10_ := (hb.cell (World.block_lt_of_cell? _ _ (hHeld.2.2.2.2.2.2.2.2.2.2.1))).trans (hHeld.2.2.2.2.2.2.2.2.2.2.1)
                       have HS11_ := (hb.cell (World.block_lt_of_cell? _ _ (hHeld.2.2.2.2.2.2.2.2.2.2.2.1))).trans (hHeld.2.2.2.2.2.2.2.2.2.2.2.1)
                       have HS12_ := (hb.cell (World.block_lt_of_cell? _ _ (hHeld.2.2.2.2.2.2.2.2.2.2.2.2.1))).trans (hHeld.2.2.2.2.2.2.2.2.2.2.2.2.1)
                       have HS13_ := (hb.cell (World.block_lt_of_cell? _ _ (hHeld.2.2.2.2.2.2.2.2.2.2.2.2.2.1))).trans (hHeld.2.2.2.2.2.2.2.2.2.2.2.2.2.1)
                       have HS14_ := (hb.cell (World.block_lt_of_cell? _ _ (hHeld.2.2.2.2.2.2.2.2.2.2.2.2.2.2.1))).trans (hHeld.2.2.2.2.2.2.2.2.2.2.2.2.2.2.1)
                       have HS15_ := (hb.cell (World.block_lt_of_cell? _ _ (hHeld.2.2.2.2.2.2.2.2.2.2.2.2.2.2.2.1))).trans (hHeld.2.2.2.2.2.2.2.2.2.2.2.2.2.2.2.1)
                       have HS16_ := (hb.cell (World.block_lt_of_cell? _ _ (hHeld.2.2.2.2.2.2.2.2.2.2.2.2.2.2.2.2.1))).trans (hHeld.2.2.2.2.2.2.2.2.2.2.2.2.2.2.2.2.1)
                       have HS17_ := (hb.cell (World.block_lt_of_cell? _ _ (hHeld.2.2.2.2.2.2.2.2.2.2.2.2.2.2.2.2.2.1))).trans (hHeld.2.2.2.2.2.2.2.2.2.2.2.2.2.2.2.2.2.1)
                       have HS18_ := (hb.cell (World.block_lt_of_cell? _ _ (hHeld.2.2.2.2.2.2.2.2.2.2.2.2.2.2.2.2.2.2.1))).trans (hHeld.2.2.2.2.2.2.2.2.2.2.2.2.2.2.2.2.2.2.1)
                       have HS19_ := (hb.cell (World.block_lt_of_cell? _ _ (hHeld.2.2.2.2.2.2.2.2.2.2.2.2.2.2.2.2.2.2.2))).trans (hHeld.2.2.2.2.2.2.2.2.2.2.2.2.2.2.2.2.2.2.2)
                       refine ⟨_, rfl, ?_⟩
                       have n0_ := Aside0.mk (Kd.S_below (by (with_reducible repeat (first | apply Kd.S_alloc | apply Kd.S_drewN | apply Kd.S_drew)); exact HO_5.out) hb)
                       have n1_ := Aside0.mk (Kd.S_below (by (with_reducible repeat (first | apply Kd.S_alloc | apply Kd.S_drewN | apply Kd.S_drew)); exact HO_8.out) hb)
                       have n2_ := Aside0.mk (Kd.S_below (by (with_reducible repeat (first | apply Kd.S_alloc | apply Kd.S_drewN | apply Kd.S_drew)); exact HO_11.out) hb)
                       have n3_ := Aside0.mk (Kd.R_below (by (with_reducible repeat (first | apply Kd.R_alloc | apply Kd.R_drewN | apply Kd.R_drew)); exact HL183_3.out) hb)
                       have n4_ := Aside0.mk (Kd.R_below (by (with_reducible repeat (first | apply Kd.R_alloc | apply Kd.R_drewN | apply Kd.R_drew)); exact HL184_3.out) hb)
                       have n5_ := Aside0.mk (Kd.C_below (by repeat (first | (with_reducible exact HR183_3.out) | (with_reducible refine Kd.C_alloc ?_ _) | (with_reducible refine Kd.C_drewN ?_ _) | (with_reducible refine Kd.C_drew ?_) | exact HR183_3.out)) hb)
                       have n6_ := Aside0.mk (Kd.C_below (by repeat (first | (with_reducible exact HR184_3.out) | (with_reducible refine Kd.C_alloc ?_ _) | (with_reducible refine Kd.C_drewN ?_ _) | (with_reducible refine Kd.C_drew ?_) | exact HR184_3.out)) hb)
                       have n7_ := Aside0.mk (below_step (by repeat (first | (with_reducible first | exact HB.out | apply below_alloc | apply pw_below_drewN | apply below_drew1) | exact HB.out)) hb)
                       clear HO_5
                       clear HO_8
                       clear HO_11
                       clear HL183_3
                       clear HL184_3
                       clear HR183_3
                       clear HR184_3
                       clear HB
                       have HO_5 := n0_
                       have HO_8 := n1_
                       have HO_11 := n2_
                       have HL183_3 := n3_
                       have HL184_3 := n4_
                       have HR183_3 := n5_
                       have HR184_3 := n6_
                       have HB := n7_
                       clear n0_ n1_ n2_ n3_ n4_ n5_ n6_ n7_
                       (try clear hb)
                       (try clear hb2)
                       (try clear hk)
                       (try clear hi)
                       refine hK.out _ _ ⟨HS0_, HS1_, HS2_, HS3_, HS4_, HS5_, HS6_, HS7_, HS8_, HS9_, HS10_, HS11_, HS12_, HS13_, HS14_, HS15_, HS16_, HS17_, HS18_, HS19_⟩ (fun hHeld => ?_)
                       clear hK K
                       refine norm_ (a' := ?_) ?_ ?_
                       rotate_left
                       ·
                        show Act.put _ (some 124) _ = _
                        simp only [Act.put, q_row, q_zero, q_succ, i64_w, i32_w]
                        rfl
                       refine pure_ (i := 17) (N := some 125) (v := ?_) (a' := ?_) #[true, true, true, true, true, true, true, true, true, true, true, true, true, true, true, true, true, true, false, false, false, false, false, false, false, false, false, false, false, false, false, false, false, false, false, false, false, false, false] rfl rfl (any_of HT_.out (by kernel_rfl)) (fun _ _ _ h => h) (Or.inl ⟨by rfl, ?_⟩) ?_ ?_
                       rotate_left
                       · intro w'; go_simp; with_reducible rfl
                       rotate_left
                       ·
                        simp only [Act.put, q_row, q_zero, q_succ, i64_w, i32_w]
                        rfl
                       refine pure_ (i := 18) (N := some 126) (v := ?_) (a' := ?_) #[true, true, true, true, true, true, true, true, true, true, true, true, true, true, true, true, true, true, true, false, false, false, false, false, false, false, false, false, false, false, false, false, false, false, false, false, false, false, false] rfl rfl (any_of HT_.out (by kernel_rfl)) (fun _ _ _ h => h) (Or.inl ⟨by rfl, ?_⟩) ?_ ?_
                       rotate_left
                       · intro w'; go_simp; with_reducible rfl
                       rotate_left
                       ·
                        simp only [Act.put, q_row, q_zero, q_succ, i64_w, i32_w]
                        rfl
                       refine pure_ (i := 19) (N := some 127) (v := ?_) (a' := ?_) #[true, true, true, true, true, true, true, true, true, true, true, true, true, true, true, true, true, true, true, true, false, false, false, false, false, false, false, false, false, false, false, false, false, false, false, false, false, false, false] rfl rfl (any_of HT_.out (by kernel_rfl)) (fun _ _ _ h => h) (Or.inl ⟨by rfl, ?_⟩) ?_ ?_
                       rotate_left
                       · intro w'; go_simp; with_reducible rfl
                       rotate_left
                       ·
                        simp only [Act.put, q_row, q_zero, q_succ, i64_w, i32_w]
                        rfl
                       refine pure_ (i := 20) (N := some 128) (v := ?_) (a' := ?_) #[true, true, true, true, true, true, true, true, true, true, true, true, true, true, true, true, true, true, true, true, true, false, false, false, false, false, false, false, false, false, false, false, false, false, false, false, false, false, false] rfl rfl (any_of HT_.out (by kernel_rfl)) (fun _ _ _ h => h) (Or.inl ⟨by rfl, ?_⟩) ?_ ?_
                       rotate_left
                       · intro w'; go_simp; with_reducible rfl
                       rotate_left
                       ·
                        simp only [Act.put, q_row, q_zero, q_succ, i64_w, i32_w]
                        rfl
                       refine pure_ (i := 21) (N := some 129) (v := ?_) (a' := ?_) #[true, true, true, true, true, true, true, true, true, true, true, true, true, true, true, true, true, true, true, true, true, true, false, false, false, false, false, false, false, false, false, false, false, false, false, false, false, false, false] rfl rfl (any_of HT_.out (by kernel_rfl)) (fun _ _ _ h => h) (Or.inl ⟨by rfl, ?_⟩) ?_ ?_
                       rotate_left
                       · intro w'; go_simp; with_reducible rfl
                       rotate_left
                       ·
                        simp only [Act.put, q_row, q_zero, q_succ, i64_w, i32_w]
                        rfl
                       refine pure_ (i := 22) (N := some 130) (v := ?_) (a' := ?_) #[true, true, true, true, true, true, true, true, true, true, true, true, true, true, true, true, true, true, true, true, true, true, true, false, false, false, false, false, false, false, false, false, false, false, false, false, false, false, false] rfl rfl (any_of HT_.out (by kernel_rfl)) (fun _ _ _ h => h) (Or.inl ⟨by rfl, ?_⟩) ?_ ?_
                       rotate_left
                       · intro w'; go_simp; with_reducible rfl
                       rotate_left
                       ·
                        simp only [Act.put, q_row, q_zero, q_succ, i64_w, i32_w]
                        rfl
                       refine pure_ (i := 24) (N := some 132) (v := ?_) (a' := ?_) #[true, true, true, true, true, true, true, true, true, true, true, true, true, true, true, true, true, true, true, true, true, true, true, false, true, false, false, false, false, false, false, false, false, false, false, false, false, false, false] rfl rfl (any_of HT_.out (by kernel_rfl)) (fun _ _ _ h => h) (Or.inl ⟨by rfl, ?_⟩) ?_ ?_
                       rotate_left
                       · intro w'; go_simp; with_reducible rfl
                       rotate_left
                       ·
                        simp only [Act.put, q_row, q_zero, q_succ, i64_w, i32_w]
                        rfl
                       refine pure_ (i := 25) (N := some 133) (v := ?_) (a' := ?_) #[true, true, true, true, true, true, true, true, true, true, true, true, true, true, true, true, true, true, true, true, true, true, true, false, true, true, false, false, false, false, false, false, false, false, false, false, false, false, false] rfl rfl (any_of HT_.out (by kernel_rfl)) (fun _ _ _ h => h) (Or.inl ⟨by rfl, ?_⟩) ?_ ?_
                       rotate_left
                       · intro w'; go_simp; with_reducible rfl
                       rotate_left
                       ·
                        simp only [Act.put, q_row, q_zero, q_succ, i64_w, i32_w]
                        rfl
                       refine pure_ (i := 26) (N := some 134) (v := ?_) (a' := ?_) #[true, true, true, true, true, true, true, true, true, true, true, true, true, true, true, true, true, true, true, true, true, true, true, false, true, true, true, false, false, false, false, false, false, false, false, false, false, false, false] rfl rfl (any_of HT_.out (by kernel_rfl)) (fun _ _ _ h => h) (Or.inl ⟨by rfl, ?_⟩) ?_ ?_
                       rotate_left
                       · intro w'; go_simp; with_reducible rfl
                       rotate_left
                       ·
                        simp only [Act.put, q_row, q_zero, q_succ, i64_w, i32_w]
                        rfl
                       refine pure_ (i := 27) (N := some 135) (v := ?_) (a' := ?_) #[true, true, true, true, true, true, true, true, true, true, true, true, true, true, true, true, true, true, true, true, true, true, true, false, true, true, true, true, false, false, false, false, false, false, false, false, false, false, false] rfl rfl (any_of HT_.out (by kernel_rfl)) (fun _ _ _ h => h) (Or.inl ⟨by rfl, ?_⟩) ?_ ?_
                       rotate_left
                       · intro w'; go_simp; with_reducible rfl
                       rotate_left
                       ·
                        simp only [Act.put, q_row, q_zero, q_succ, i64_w, i32_w]
                        rfl
                       refine pure_ (i := 28) (N := some 136) (v := ?_) (a' := ?_) #[true, true, true, true, true, true, true, true, true, true, true, true, true, true, true, true, true, true, true, true, true, true, true, false, true, true, true, true, true, false, false, false, false, false, false, false, false, false, false] rfl rfl (any_of HT_.out (by kernel_rfl)) (fun _ _ _ h => h) (Or.inl ⟨by rfl, ?_⟩) ?_ ?_
                       rotate_left
                       · intro w'; go_simp; with_reducible rfl
                       rotate_left
                       ·
                        simp only [Act.put, q_row, q_zero, q_succ, i64_w, i32_w]
                        rfl
                       refine pure_ (i := 29) (N := some 137) (v := ?_) (a' := ?_) #[true, true, true, true, true, true, true, true, true, true, true, true, true, true, true, true, true, true, true, true, true, true, true, false, true, true, true, true, true, true, false, false, false, false, false, false, false, false, false] rfl rfl (any_of HT_.out (by kernel_rfl)) (fun _ _ _ h => h) (Or.inl ⟨by rfl, ?_⟩) ?_ ?_
                       rotate_left
                       · intro w'; go_simp; with_reducible rfl
                       rotate_left
                       ·
                        simp only [Act.put, q_row, q_zero, q_succ, i64_w, i32_w]
                        rfl
                       refine pure_ (i := 30) (N := some 138) (v := ?_) (a' := ?_) #[true, true, true, true, true, true, true, true, true, true, true, true, true, true, true, true, true, true, true, true, true, true, true, false, true, true, true, true, true, true, true, false, false, false, false, false, false, false, false] rfl rfl (any_of HT_.out (by kernel_rfl)) (fun _ _ _ h => h) (Or.inl ⟨by rfl, ?_⟩) ?_ ?_
                       rotate_left
                       · intro w'; go_simp; with_reducible rfl
                       rotate_left
                       ·
                        simp only [Act.put, q_row, q_zero, q_succ, i64_w, i32_w]
                        rfl
                       refine pure_ (i := 32) (N := some 140) (v := ?_) (a' := ?_) #[true, true, true, true, true, true, true, true, true, true, true, true, true, true, true, true, true, true, true, true, true, true, true, false, true, true, true, true, true, true, true, false, true, false, false, false, false, false, false] rfl rfl (any_of HT_.out (by kernel_rfl)) (fun _ _ _ h => h) (Or.inl ⟨by rfl, ?_⟩) ?_ ?_
                       rotate_left
                       · intro w'; go_simp; with_reducible rfl
                       rotate_left
                       ·
                        simp only [Act.put, q_row, q_zero, q_succ, i64_w, i32_w]
                        rfl
                       refine pure_ (i := 33) (N := some 141) (v := ?_) (a' := ?_) #[true, true, true, true, true, true, true, true, true, true, true, true, true, true, true, true, true, true, true, true, true, true, true, false, true, true, true, true, true, true, true, false, true, true, false, false, false, false, false] rfl rfl (any_of HT_.out (by kernel_rfl)) (fun _ _ _ h => h) (Or.inl ⟨by rfl, ?_⟩) ?_ ?_
                       rotate_left
                       · intro w'; go_simp; with_reducible rfl
                       rotate_left
                       ·
                        simp only [Act.put, q_row, q_zero, q_succ, i64_w, i32_w]
                        rfl
                       refine take_ (i := 23) (N := some 131) (v := ?_) (a' := ?_) #[true, true, true, true, true, true, true, true, true, true, true, true, true, true, true, true, true, true, true, true, true, true, true, true, true, true, true, true, true, true, true, false, true, true, false, false, false, false, false] rfl rfl (take_ofW HT_.out HW_.out (by kernel_rfl)) (fun _ _ _ h => h) (Or.inl ⟨by rfl, ?_⟩) hHeld ?_ ?_
                       rotate_left
                       ·
                        rintro w' ⟨s0, s1, s2, s3, s4, s5, s6, s7, s8, s9, s10, s11, s12, s13, s14, s15, s16, s17, s18, s19⟩
                        go_simp
                        with_reducible rfl
                       rotate_left
                       ·
                        simp only [Act.put, q_row, q_zero, q_succ, i64_w, i32_w]
                        rfl
                       refine take_ (i := 31) (N := some 139) (v := ?_) (a' := ?_) #[true, true, true, true, true, true, true, true, true, true, true, true, true, true, true, true, true, true, true, true, true, true, true, true, true, true, true, true, true, true, true, true, true, true, false, false, false, false, false] rfl rfl (take_ofW HT_.out HW_.out (by kernel_rfl)) (fun _ _ _ h => h) (Or.inl ⟨by rfl, ?_⟩) hHeld ?_ ?_
                       rotate_left
                       ·
                        rintro w' ⟨s0, s1, s2, s3, s4, s5, s6, s7, s8, s9, s10, s11, s12, s13, s14, s15, s16, s17, s18, s19⟩
                        go_simp
                        with_reducible rfl
                       rotate_left
                       ·
                        simp only [Act.put, q_row, q_zero, q_succ, i64_w, i32_w]
                        rfl
                       refine pure_ (i := 34) (N := some 142) (v := ?_) (a' := ?_) #[true, true, true, true, true, true, true, true, true, true, true, true, true, true, true, true, true, true, true, true, true, true, true, true, true, true, true, true, true, true, true, true, true, true, true, false, false, false, false] rfl rfl (any_of HT_.out (by kernel_rfl)) (fun _ _ _ h => h) (Or.inl ⟨by rfl, ?_⟩) ?_ ?_
                       rotate_left
                       · intro w'; go_simp; with_reducible rfl
                       rotate_left
                       ·
                        simp only [Act.put, q_row, q_zero, q_succ, i64_w, i32_w]
                        rfl
                       refine pure_ (i := 35) (N := some 143) (v := ?_) (a' := ?_) #[true, true, true, true, true, true, true, true, true, true, true, true, true, true, true, true, true, true, true, true, true, true, true, true, true, true, true, true, true, true, true, true, true, true, true, true, false, false, false] rfl rfl (any_of HT_.out (by kernel_rfl)) (fun _ _ _ h => h) (Or.inl ⟨by rfl, ?_⟩) ?_ ?_
                       rotate_left
                       · intro w'; go_simp; with_reducible rfl
                       rotate_left
                       ·
                        simp only [Act.put, q_row, q_zero, q_succ, i64_w, i32_w]
                        rfl
                       refine pure_ (i := 36) (N := some 144) (v := ?_) (a' := ?_) #[true, true, true, true, true, true, true, true, true, true, true, true, true, true, true, true, true, true, true, true, true, true, true, true, true, true, true, true, true, true, true, true, true, true, true, true, true, false, false] rfl rfl (any_of HT_.out (by kernel_rfl)) (fun _ _ _ h => h) (Or.inl ⟨by rfl, ?_⟩) ?_ ?_
                       rotate_left
                       · intro w'; go_simp; with_reducible rfl
                       rotate_left
                       ·
                        simp only [Act.put, q_row, q_zero, q_succ, i64_w, i32_w]
                        rfl
                       refine pure_ (i := 37) (N := some 145) (v := ?_) (a' := ?_) #[true, true, true, true, true, true, true, true, true, true, true, true, true, true, true, true, true, true, true, true, true, true, true, true, true, true, true, true, true, true, true, true, true, true, true, true, true, true, false] rfl rfl (any_of HT_.out (by kernel_rfl)) (fun _ _ _ h => h) (Or.inl ⟨by rfl, ?_⟩) ?_ ?_
                       rotate_left
                       · intro w'; go_simp; with_reducible rfl
                       rotate_left
                       ·
                        simp only [Act.put, q_row, q_zero, q_succ, i64_w, i32_w]
                        rfl
                       refine pure_ (i := 38) (N := some 146) (v := ?_) (a' := ?_) #[true, true, true, true, true, true, true, true, true, true, true, true, true, true, true, true, true, true, true, true, true, true, true, true, true, true, true, true, true, true, true, true, true, true, true, true, true, true, true] rfl rfl (any_of HT_.out (by kernel_rfl)) (fun _ _ _ h => h) (Or.inl ⟨by rfl, ?_⟩) ?_ ?_
                       rotate_left
                       · intro w'; go_simp; with_reducible rfl
                       rotate_left
                       ·
                        simp only [Act.put, q_row, q_zero, q_succ, i64_w, i32_w]
                        rfl
                       refine done_ (done_of HT_.out (by kernel_rfl)) ?_
                       try go_wp2
                       go_roundg kj27
                       case measure => have := HJ6.out; have := HJ19.out; have := HK3.out; have := HJ27.out; omega
                       case rel => exact ⟨(wrap64 (x14_3 + 1)), (by first | rfl | (simp; done) | (simp [*]; done)), H', ⟨by have := HJ6.out; have := HJ19.out; have := HK3.out; have := HJ27.out; omega⟩, ⟨by (with_reducible repeat (first | apply Kd.S_alloc | apply Kd.S_drewN | apply Kd.S_drew)); exact HO_5.out⟩, ⟨by (with_reducible repeat (first | apply Kd.S_alloc | apply Kd.S_drewN | apply Kd.S_drew)); exact HO_8.out⟩, ⟨by (with_reducible repeat (first | apply Kd.S_alloc | apply Kd.S_drewN | apply Kd.S_drew)); exact HO_11.out⟩, ⟨by repeat (first | (with_reducible first | exact HB.out | apply below_alloc | apply pw_below_drewN | apply below_drew1) | exact HB.out)⟩⟩
                      ·
                       rw [if_neg c51] at H
                       have c51b0 : (((rd_T33 t173 x14_3).f4) == (wrap64 ((wrap64 (((rd_T33 t168 (ji46)).f4) + (a0.size : Int))) + 1))) = false := beq_eq_false_iff_ne.mpr c51
                       have c51b1 : (((rd_T33 t173 x14_3).f4) != (wrap64 ((wrap64 (((rd_T33 t168 (ji46)).f4) + (a0.size : Int))) + 1))) = true := bne_iff_ne.mpr c51
                       obtain rfl := Option.some.inj H
                       try go_wp2
                       have n0_ := Aside0.mk (Kd.S_drew HO_5.out)
                       have n1_ := Aside0.mk (Kd.S_drew HO_8.out)
                       have n2_ := Aside0.mk (Kd.S_drew HO_11.out)
                       have n3_ := Aside0.mk (below_drew1 HB.out)
                       clear HO_5
                       clear HO_8
                       clear HO_11
                       clear HB
                       have HO_5 := n0_
                       have HO_8 := n1_
                       have HO_11 := n2_
                       have HB := n3_
                       clear n0_ n1_ n2_ n3_
                       obtain ⟨Ao57, co57, eo57⟩ := Kd.S_slice HO_5.out
                       (first | subst eo57 | (injection eo57 with f1_ f2_ f3_; have f4_ := f1_.symm; have f5_ := f3_.symm; clear f1_ f2_ f3_; subst f4_; subst f5_))
                       have p183 : 0 ≤ (x14_3 : Int) := of_decide_eq_true (by first | (with_reducible assumption) | assumption)
                       have q183 : x14_3 < (t173.length : Int) := of_decide_eq_true (by first | (with_reducible assumption) | assumption)
                       obtain ⟨ad183, A183_3, c183_3, e183, hx183_0, hx183_1, hx183_2, hx183_3, hx183_4, hl183_3, hi183_3⟩ := at_T33 (Kd.S_reads' HO_11.out).2.2 x14_3 p183 q183
                       cases e183
                       obtain ⟨ce183, hce183, hMe183, hcc183⟩ := Kd.S_get HO_11.out z33 x14_3 p183 (by first | exact q183 | exact of_decide_eq_true (by first | (with_reducible assumption) | assumption) | (have e_ := (Kd.S_reads' HO_11.out).1; omega))
                       obtain ⟨ve183_3, rfl, ge183_3⟩ := k33_openM hMe183
                       have hv183_3 := hcc183 3 _ rfl
                       rw [add_field _ _ 3 (by omega)] at hv183_3
                       replace hv183_3 := Option.some.inj (hv183_3.symm.trans hx183_3)
                       rw [hv183_3] at ge183_3
                       have HL183_3 := Aside0.mk (show Kd.R (Kd.int .u8) 5 _ _ _ _ ((rd_T33 t173 x14_3).f3) from ge183_3)
                       clear hv183_3 ge183_3
                       clear hcc183 hce183
                       have HR183_3 := Aside0.mk hi183_3
                       have HC183_3 := Aside0.mk hl183_3
                       clear hi183_3 hl183_3
                       replace p183 := eq_true p183
                       replace q183 := eq_true q183
                       obtain ⟨Ao58, co58, eo58⟩ := Kd.S_slice HO_8.out
                       (first | subst eo58 | (injection eo58 with f1_ f2_ f3_; have f4_ := f1_.symm; have f5_ := f3_.symm; clear f1_ f2_ f3_; subst f4_; subst f5_))
                       have p184 : 0 ≤ ((ji46) : Int) := of_decide_eq_true (by first | (with_reducible assumption) | assumption)
                       have q184 : (ji46) < (t168.length : Int) := of_decide_eq_true (by first | (with_reducible assumption) | assumption)
                       obtain ⟨ad184, A184_3, c184_3, e184, hx184_0, hx184_1, hx184_2, hx184_3, hx184_4, hl184_3, hi184_3⟩ := at_T33 (Kd.S_reads' HO_8.out).2.2 (ji46) p184 q184
                       cases e184
                       obtain ⟨ce184, hce184, hMe184, hcc184⟩ := Kd.S_get HO_8.out z33 (ji46) p184 (by first | exact q184 | exact of_decide_eq_true (by first | (with_reducible assumption) | assumption) | (have e_ := (Kd.S_reads' HO_8.out).1; omega))
                       obtain ⟨ve184_3, rfl, ge184_3⟩ := k33_openM hMe184
                       have hv184_3 := hcc184 3 _ rfl
                       rw [add_field _ _ 3 (by omega)] at hv184_3
                       replace hv184_3 := Option.some.inj (hv184_3.symm.trans hx184_3)
                       rw [hv184_3] at ge184_3
                       have HL184_3 := Aside0.mk (show Kd.R (Kd.int .u8) 5 _ _ _ _ ((rd_T33 t168 (ji46)).f3) from ge184_3)
                       clear hv184_3 ge184_3
                       clear hcc184 hce184
                       have HR184_3 := Aside0.mk hi184_3
                       have HC184_3 := Aside0.mk hl184_3
                       clear hi184_3 hl184_3
                       replace p184 := eq_true p184
                       replace q184 := eq_true q184
                       have p186 : 0 ≤ (x14_3 : Int) := of_decide_eq_true (by first | (with_reducible assumption) | assumption)
                       have q186 : x14_3 < (t173.length : Int) := of_decide_eq_true (by first | (with_reducible assumption) | assumption)
                       obtain ⟨ad186, A186_3, c186_3, e186, hx186_0, hx186_1, hx186_2, hx186_3, hx186_4, hl186_3, hi186_3⟩ := at_T33 (Kd.S_reads' HO_11.out).2.2 x14_3 p186 q186
                       obtain rfl : ad183 = ad186 := (by injection e186)
                       obtain ⟨ce186, hce186, hMe186, hcc186⟩ := Kd.S_get HO_11.out z33 x14_3 p186 (by first | exact q186 | exact of_decide_eq_true (by first | (with_reducible assumption) | assumption) | (have e_ := (Kd.S_reads' HO_11.out).1; omega))
                       obtain ⟨ve186_3, rfl, ge186_3⟩ := k33_openM hMe186
                       have hv186_3 := hcc186 3 _ rfl
                       rw [add_field _ _ 3 (by omega)] at hv186_3
                       replace hv186_3 := Option.some.inj (hv186_3.symm.trans hx186_3)
                       rw [hv186_3] at ge186_3
                       have HL186_3 := Aside0.mk (show Kd.R (Kd.int .u8) 5 _ _ _ _ ((rd_T33 t173 x14_3).f3) from ge186_3)
                       clear hv186_3 ge186_3
                       clear hcc186 hce186
                       have HR186_3 := Aside0.mk hi186_3
                       have HC186_3 := Aside0.mk hl186_3
                       clear hi186_3 hl186_3
                       replace p186 := eq_true p186
                       replace q186 := eq_true q186
                       have p187 : 0 ≤ ((ji46) : Int) := of_decide_eq_true (by first | (with_reducible assumption) | assumption)
                       have q187 : (ji46) < (t168.length : Int) := of_decide_eq_true (by first | (with_reducible assumption) | assumption)
                       obtain ⟨ad187, A187_3, c187_3, e187, hx187_0, hx187_1, hx187_2, hx187_3, hx187_4, hl187_3, hi187_3⟩ := at_T33 (Kd.S_reads' HO_8.out).2.2 (ji46) p187 q187
                       obtain rfl : ad184 = ad187 := (by injection e187)
                       obtain ⟨ce187, hce187, hMe187, hcc187⟩ := Kd.S_get HO_8.out z33 (ji46) p187 (by first | exact q187 | exact of_decide_eq_true (by first | (with_reducible assumption) | assumption) | (have e_ := (Kd.S_reads' HO_8.out).1; omega))
                       obtain ⟨ve187_3, rfl, ge187_3⟩ := k33_openM hMe187
                       have hv187_3 := hcc187 3 _ rfl
                       rw [add_field _ _ 3 (by omega)] at hv187_3
                       replace hv187_3 := Option.some.inj (hv187_3.symm.trans hx187_3)
                       rw [hv187_3] at ge187_3
                       have HL187_3 := Aside0.mk (show Kd.R (Kd.int .u8) 5 _ _ _ _ ((rd_T33 t168 (ji46)).f3) from ge187_3)
                       clear hv187_3 ge187_3
                       clear hcc187 hce187
                       have HR187_3 := Aside0.mk hi187_3
                       have HC187_3 := Aside0.mk hl187_3
                       clear hi187_3 hl187_3
                       replace p187 := eq_true p187
                       replace q187 := eq_true q187
                       refine start_ (n := 39) (S := fun w' => w'.cell? (ad183.add ((x14_3).toNat * 5)) = some (.int .i64 ((rd_T33 t173 x14_3).f0)) ∧ w'.cell? ⟨(ad183.add ((x14_3).toNat * 5)).block, (ad183.add ((x14_3).toNat * 5)).off + 1, none⟩ = some (.string ((rd_T33 t173 x14_3).f1)) ∧ w'.cell? ⟨(ad183.add ((x14_3).toNat * 5)).block, (ad183.add ((x14_3).toNat * 5)).off + 2, none⟩ = some (.int .i64 ((rd_T33 t173 x14_3).f2)) ∧ w'.cell? ⟨(ad183.add ((x14_3).toNat * 5)).block, (ad183.add ((x14_3).toNat * 5)).off + 3, none⟩ = some (.slice A183_3 ((rd_T33 t173 x14_3).f3).length c183_3) ∧ w'.cell? ⟨(ad183.add ((x14_3).toNat * 5)).block, (ad183.add ((x14_3).toNat * 5)).off + 4, none⟩ = some (.int .i64 ((rd_T33 t173 x14_3).f4)) ∧ w'.cell? (ad184.add (((ji46)).toNat * 5)) = some (.int .i64 ((rd_T33 t168 (ji46)).f0)) ∧ w'.cell? ⟨(ad184.add (((ji46)).toNat * 5)).block, (ad184.add (((ji46)).toNat * 5)).off + 1, none⟩ = some (.string ((rd_T33 t168 (ji46)).f1)) ∧ w'.cell? ⟨(ad184.add (((ji46)).toNat * 5)).block, (ad184.add (((ji46)).toNat * 5)).off + 2, none⟩ = some (.int .i64 ((rd_T33 t168 (ji46)).f2)) ∧ w'.cell? ⟨(ad184.add (((ji46)).toNat * 5)).block, (ad184.add (((ji46)).toNat * 5)).off + 3, none⟩ = some (.slice A184_3 ((rd_T33 t168 (ji46)).f3).length c184_3) ∧ w'.cell? ⟨(ad184.add (((ji46)).toNat * 5)).block, (ad184.add (((ji46)).toNat * 5)).off + 4, none⟩ = some (.int .i64 ((rd_T33 t168 (ji46)).f4)) ∧ w'.cell? (ad183.add ((x14_3).toNat * 5)) = some (.int .i64 ((rd_T33 t173 x14_3).f0)) ∧ w'.cell? ⟨(ad183.add ((x14_3).toNat * 5)).block, (ad183.add ((x14_3).toNat * 5)).off + 1, none⟩ = some (.string ((rd_T33 t173 x14_3).f1)) ∧ w'.cell? ⟨(ad183.add ((x14_3).toNat * 5)).block, (ad183.add ((x14_3).toNat * 5)).off + 2, none⟩ = some (.int .i64 ((rd_T33 t173 x14_3).f2)) ∧ w'.cell? ⟨(ad183.add ((x14_3).toNat * 5)).block, (ad183.add ((x14_3).toNat * 5)).off + 3, none⟩ = some (.slice A186_3 ((rd_T33 t173 x14_3).f3).length c186_3) ∧ w'.cell? ⟨(ad183.add ((x14_3).toNat * 5)).block, (ad183.add ((x14_3).toNat * 5)).off + 4, none⟩ = some (.int .i64 ((rd_T33 t173 x14_3).f4)) ∧ w'.cell? (ad184.add (((ji46)).toNat * 5)) = some (.int .i64 ((rd_T33 t168 (ji46)).f0)) ∧ w'.cell? ⟨(ad184.add (((ji46)).toNat * 5)).block, (ad184.add (((ji46)).toNat * 5)).off + 1, none⟩ = some (.string ((rd_T33 t168 (ji46)).f1)) ∧ w'.cell? ⟨(ad184.add (((ji46)).toNat * 5)).block, (ad184.add (((ji46)).toNat * 5)).off + 2, none⟩ = some (.int .i64 ((rd_T33 t168 (ji46)).f2)) ∧ w'.cell? ⟨(ad184.add (((ji46)).toNat * 5)).block, (ad184.add (((ji46)).toNat * 5)).off + 3, none⟩ = some (.slice A187_3 ((rd_T33 t168 (ji46)).f3).length c187_3) ∧ w'.cell? ⟨(ad184.add (((ji46)).toNat * 5)).block, (ad184.add (((ji46)).toNat * 5)).off + 4, none⟩ = some (.int .i64 ((rd_T33 t168 (ji46)).f4))) (ds := []) #[false, false, false, false, false, false, false, false, false, false, false, false, false, false, false, false, false, false, false, false, false, false, false, false, false, false, false, false, false, false, false, false, false, false, false, false, false, false, false] (by kernel_rfl) rfl rfl ⟨hx183_0, hx183_1, hx183_2, hx183_3, hx183_4, hx184_0, hx184_1, hx184_2, hx184_3, hx184_4, hx186_0, hx186_1, hx186_2, hx186_3, hx186_4, hx187_0, hx187_1, hx187_2, hx187_3, hx187_4⟩ (fun hHeld => ?_); refine with_tabW rookerylaw15_LexJoins.tab15 rookerylaw15_LexJoins.bits15 (fun HT_ HW_ => ?_)
                       generalize wc.drew = w56 at HO_5 HO_8 HO_11 HB HL183_3 HL184_3 HL186_3 HL187_3 HR183_3 HR184_3 HR186_3 HR187_3 hx183_0 hx183_1 hx183_2 hx183_3 hx183_4 hx184_0 hx184_1 hx184_2 hx184_3 hx184_4 hx186_0 hx186_1 hx186_2 hx186_3 hx186_4 hx187_0 hx187_1 hx187_2 hx187_3 hx187_4 hHeld ⊢
                       refine pure_ (i := 0) (N := some 108) (v := ?_) (a' := ?_) #[true, false, false, false, false, false, false, false, false, false, false, false, false, false, false, false, false, false, false, false, false, false, false, false, false, false, false, false, false, false, false, false, false, false, false, false, false, false, false] rfl rfl (any_of HT_.out (by kernel_rfl)) (fun _ _ _ h => h) (Or.inl ⟨by rfl, ?_⟩) ?_ ?_
                       rotate_left
                       · intro w'; go_simp; with_reducible rfl
                       rotate_left
                       ·
                        simp only [Act.put, q_row, q_zero, q_succ, i64_w, i32_w]
                        rfl
                       refine pure_ (i := 1) (N := some 109) (v := ?_) (a' := ?_) #[true, true, false, false, false, false, false, false, false, false, false, false, false, false, false, false, false, false, false, false, false, false, false, false, false, false, false, false, false, false, false, false, false, false, false, false, false, false, false] rfl rfl (any_of HT_.out (by kernel_rfl)) (fun _ _ _ h => h) (Or.inl ⟨by rfl, ?_⟩) ?_ ?_
                       rotate_left
                       · intro w'; go_simp; with_reducible rfl
                       rotate_left
                       ·
                        simp only [Act.put, q_row, q_zero, q_succ, i64_w, i32_w]
                        rfl
                       refine pure_ (i := 2) (N := some 110) (v := ?_) (a' := ?_) #[true, true, true, false, false, false, false, false, false, false, false, false, false, false, false, false, false, false, false, false, false, false, false, false, false, false, false, false, false, false, false, false, false, false, false, false, false, false, false] rfl rfl (any_of HT_.out (by kernel_rfl)) (fun _ _ _ h => h) (Or.inl ⟨by rfl, ?_⟩) ?_ ?_
                       rotate_left
                       · intro w'; go_simp; with_reducible rfl
                       rotate_left
                       ·
                        simp only [Act.put, q_row, q_zero, q_succ, i64_w, i32_w]
                        rfl
                       refine pure_ (i := 3) (N := some 111) (v := ?_) (a' := ?_) #[true, true, true, true, false, false, false, false, false, false, false, false, false, false, false, false, false, false, false, false, false, false, false, false, false, false, false, false, false, false, false, false, false, false, false, false, false, false, false] rfl rfl (any_of HT_.out (by kernel_rfl)) (fun _ _ _ h => h) (Or.inl ⟨by rfl, ?_⟩) ?_ ?_
                       rotate_left
                       · intro w'; go_simp; with_reducible rfl
                       rotate_left
                       ·
                        simp only [Act.put, q_row, q_zero, q_succ, i64_w, i32_w]
                        rfl
                       refine pure_ (i := 4) (N := some 112) (v := ?_) (a' := ?_) #[true, true, true, true, true, false, false, false, false, false, false, false, false, false, false, false, false, false, false, false, false, false, false, false, false, false, false, false, false, false, false, false, false, false, false, false, false, false, false] rfl rfl (any_of HT_.out (by kernel_rfl)) (fun _ _ _ h => h) (Or.inl ⟨by rfl, ?_⟩) ?_ ?_
                       rotate_left
                       · intro w'; go_simp; with_reducible rfl
                       rotate_left
                       ·
                        simp only [Act.put, q_row, q_zero, q_succ, i64_w, i32_w]
                        rfl
                       refine pure_ (i := 5) (N := some 113) (v := ?_) (a' := ?_) #[true, true, true, true, true, true, false, false, false, false, false, false, false, false, false, false, false, false, false, false, false, false, false, false, false, false, false, false, false, false, false, false, false, false, false, false, false, false, false] rfl rfl (any_of HT_.out (by kernel_rfl)) (fun _ _ _ h => h) (Or.inl ⟨by rfl, ?_⟩) ?_ ?_
                       rotate_left
                       · intro w'; go_simp; with_reducible rfl
                       rotate_left
                       ·
                        simp only [Act.put, q_row, q_zero, q_succ, i64_w, i32_w]
                        rfl
                       refine pure_ (i := 6) (N := some 114) (v := ?_) (a' := ?_) #[true, true, true, true, true, true, true, false, false, false, false, false, false, false, false, false, false, false, false, false, false, false, false, false, false, false, false, false, false, false, false, false, false, false, false, false, false, false, false] rfl rfl (any_of HT_.out (by kernel_rfl)) (fun _ _ _ h => h) (Or.inl ⟨by rfl, ?_⟩) ?_ ?_
                       rotate_left
                       · intro w'; go_simp; with_reducible rfl
                       rotate_left
                       ·
                        simp only [Act.put, q_row, q_zero, q_succ, i64_w, i32_w]
                        rfl
                       refine pure_ (i := 7) (N := some 115) (v := ?_) (a' := ?_) #[true, true, true, true, true, true, true, true, false, false, false, false, false, false, false, false, false, false, false, false, false, false, false, false, false, false, false, false, false, false, false, false, false, false, false, false, false, false, false] rfl rfl (any_of HT_.out (by kernel_rfl)) (fun _ _ _ h => h) (Or.inl ⟨by rfl, ?_⟩) ?_ ?_
                       rotate_left
                       · intro w'; go_simp; with_reducible rfl
                       rotate_left
                       ·
                        simp only [Act.put, q_row, q_zero, q_succ, i64_w, i32_w]
                        rfl
                       refine pure_ (i := 9) (N := some 117) (v := ?_) (a' := ?_) #[true, true, true, true, true, true, true, true, false, true, false, false, false, false, false, false, false, false, false, false, false, false, false, false, false, false, false, false, false, false, false, false, false, false, false, false, false, false, false] rfl rfl (any_of HT_.out (by kernel_rfl)) (fun _ _ _ h => h) (Or.inl ⟨by rfl, ?_⟩) ?_ ?_
                       rotate_left
                       · intro w'; go_simp; with_reducible rfl
                       rotate_left
                       ·
                        simp only [Act.put, q_row, q_zero, q_succ, i64_w, i32_w]
                        rfl
                       refine pure_ (i := 10) (N := some 118) (v := ?_) (a' := ?_) #[true, true, true, true, true, true, true, true, false, true, true, false, false, false, false, false, false, false, false, false, false, false, false, false, false, false, false, false, false, false, false, false, false, false, false, false, false, false, false] rfl rfl (any_of HT_.out (by kernel_rfl)) (fun _ _ _ h => h) (Or.inl ⟨by rfl, ?_⟩) ?_ ?_
                       rotate_left
                       · intro w'; go_simp; with_reducible rfl
                       rotate_left
                       ·
                        simp only [Act.put, q_row, q_zero, q_succ, i64_w, i32_w]
                        rfl
                       refine pure_ (i := 11) (N := some 119) (v := ?_) (a' := ?_) #[true, true, true, true, true, true, true, true, false, true, true, true, false, false, false, false, false, false, false, false, false, false, false, false, false, false, false, false, false, false, false, false, false, false, false, false, false, false, false] rfl rfl (any_of HT_.out (by kernel_rfl)) (fun _ _ _ h => h) (Or.inl ⟨by rfl, ?_⟩) ?_ ?_
                       rotate_left
                       · intro w'; go_simp; with_reducible rfl
                       rotate_left
                       ·
                        simp only [Act.put, q_row, q_zero, q_succ, i64_w, i32_w]
                        rfl
                       refine pure_ (i := 12) (N := some 120) (v := ?_) (a' := ?_) #[true, true, true, true, true, true, true, true, false, true, true, true, true, false, false, false, false, false, false, false, false, false, false, false, false, false, false, false, false, false, false, false, false, false, false, false, false, false, false] rfl rfl (any_of HT_.out (by kernel_rfl)) (fun _ _ _ h => h) (Or.inl ⟨by rfl, ?_⟩) ?_ ?_
                       rotate_left
                       · intro w'; go_simp; with_reducible rfl
                       rotate_left
                       ·
                        simp only [Act.put, q_row, q_zero, q_succ, i64_w, i32_w]
                        rfl
                       refine pure_ (i := 13) (N := some 121) (v := ?_) (a' := ?_) #[true, true, true, true, true, true, true, true, false, true, true, true, true, true, false, false, false, false, false, false, false, false, false, false, false, false, false, false, false, false, false, false, false, false, false, false, false, false, false] rfl rfl (any_of HT_.out (by kernel_rfl)) (fun _ _ _ h => h) (Or.inl ⟨by rfl, ?_⟩) ?_ ?_
                       rotate_left
                       · intro w'; go_simp; with_reducible rfl
                       rotate_left
                       ·
                        simp only [Act.put, q_row, q_zero, q_succ, i64_w, i32_w]
                        rfl
                       refine pure_ (i := 14) (N := some 122) (v := ?_) (a' := ?_) #[true, true, true, true, true, true, true, true, false, true, true, true, true, true, true, false, false, false, false, false, false, false, false, false, false, false, false, false, false, false, false, false, false, false, false, false, false, false, false] rfl rfl (any_of HT_.out (by kernel_rfl)) (fun _ _ _ h => h) (Or.inl ⟨by rfl, ?_⟩) ?_ ?_
                       rotate_left
                       · intro w'; go_simp; with_reducible rfl
                       rotate_left
                       ·
                        simp only [Act.put, q_row, q_zero, q_succ, i64_w, i32_w]
                        rfl
                       refine take_ (i := 8) (N := some 116) (v := ?_) (a' := ?_) #[true, true, true, true, true, true, true, true, true, true, true, true, true, true, true, false, false, false, false, false, false, false, false, false, false, false, false, false, false, false, false, false, false, false, false, false, false, false, false] rfl rfl (take_ofW HT_.out HW_.out (by kernel_rfl)) (fun _ _ _ h => h) (Or.inl ⟨by rfl, ?_⟩) hHeld ?_ ?_
                       rotate_left
                       ·
                        rintro w' ⟨s0, s1, s2, s3, s4, s5, s6, s7, s8, s9, s10, s11, s12, s13, s14, s15, s16, s17, s18, s19⟩
                        go_simp
                        with_reducible rfl
                       rotate_left
                       ·
                        simp only [Act.put, q_row, q_zero, q_succ, i64_w, i32_w]
                        rfl
                       refine take_ (i := 15) (N := some 123) (v := ?_) (a' := ?_) #[true, true, true, true, true, true, true, true, true, true, true, true, true, true, true, true, false, false, false, false, false, false, false, false, false, false, false, false, false, false, false, false, false, false, false, false, false, false, false] rfl rfl (take_ofW HT_.out HW_.out (by kernel_rfl)) (fun _ _ _ h => h) (Or.inl ⟨by rfl, ?_⟩) hHeld ?_ ?_
                       rotate_left
                       ·
                        rintro w' ⟨s0, s1, s2, s3, s4, s5, s6, s7, s8, s9, s10, s11, s12, s13, s14, s15, s16, s17, s18, s19⟩
                        go_simp
                        with_reducible rfl
                       rotate_left
                       ·
                        simp only [Act.put, q_row, q_zero, q_succ, i64_w, i32_w]
                        rfl
                       refine one_ (i := 16) (N := some 124) #[true, true, true, true, true, true, true, true, true, true, true, true, true, true, true, true, true, false, false, false, false, false, false, false, false, false, false, false, false, false, false, false, false, false, false, false, false, false, false] rfl rfl (one_of HT_.out (by kernel_rfl)) (by decide) (fun K hK => ?_)
                       refine goes_ Tryd.func21 (by kernel_rfl) rfl #[.agg #[.int .i64 ((rd_T33 t173 x14_3).f0), .string ((rd_T33 t173 x14_3).f1), .int .i64 ((rd_T33 t173 x14_3).f2), .slice A183_3 ((rd_T33 t173 x14_3).f3).length c183_3, .int .i64 ((rd_T33 t173 x14_3).f4)], .agg #[.int .i64 ((rd_T33 t168 (ji46)).f0), .string ((rd_T33 t168 (ji46)).f1), .int .i64 ((rd_T33 t168 (ji46)).f2), .slice A184_3 ((rd_T33 t168 (ji46)).f3).length c184_3, .int .i64 ((rd_T33 t168 (ji46)).f4)]] (by rfl) rfl rfl (by (try simp only [List.map_toArray, List.map_cons, List.map_nil]); first | done | (simp only [hji46]; rfl) | rfl | (simp only [List.length_drop, List.length_take]; rfl)) ?_
                       with_reducible refine (rookeryref15_Same.calls ((rd_T33 t173 x14_3).f0) ((rd_T33 t173 x14_3).f1) ((rd_T33 t173 x14_3).f2) _ _ ((rd_T33 t173 x14_3).f3) ((rd_T33 t173 x14_3).f4) ((rd_T33 t168 (ji46)).f0) ((rd_T33 t168 (ji46)).f1) ((rd_T33 t168 (ji46)).f2) _ _ ((rd_T33 t168 (ji46)).f3) ((rd_T33 t168 (ji46)).f4) true _ ?side1 ?side2 ?side3 ?side4 A49.out).mono ?_
                       (case side1 => repeat (first | exact (by repeat (first | (with_reducible exact HR183_3.out) | (with_reducible refine Kd.C_alloc ?_ _) | (with_reducible refine Kd.C_drewN ?_ _) | (with_reducible refine Kd.C_drew ?_) | exact HR183_3.out)) | (with_reducible refine Kd.C_alloc ?_ _) | (with_reducible refine Kd.C_drewN ?_ _) | (with_reducible refine Kd.C_drew ?_)))
                       (case side2 => exact HC183_3.out)
                       (case side3 => repeat (first | exact (by repeat (first | (with_reducible exact HR184_3.out) | (with_reducible refine Kd.C_alloc ?_ _) | (with_reducible refine Kd.C_drewN ?_ _) | (with_reducible refine Kd.C_drew ?_) | exact HR184_3.out)) | (with_reducible refine Kd.C_alloc ?_ _) | (with_reducible refine Kd.C_drewN ?_ _) | (with_reducible refine Kd.C_drew ?_)))
                       (case side4 => exact HC184_3.out)
                       rintro e w59 ⟨rfl, hb⟩
                       have HS0_ := (hb.cell (World.block_lt_of_cell? _ _ (hHeld.1))).trans (hHeld.1)
                       have HS1_ := (hb.cell (World.block_lt_of_cell? _ _ (hHeld.2.1))).trans (hHeld.2.1)
                       have HS2_ := (hb.cell (World.block_lt_of_cell? _ _ (hHeld.2.2.1))).trans (hHeld.2.2.1)
                       have HS3_ := (hb.cell (World.block_lt_of_cell? _ _ (hHeld.2.2.2.1))).trans (hHeld.2.2.2.1)
                       have HS4_ := (hb.cell (World.block_lt_of_cell? _ _ (hHeld.2.2.2.2.1))).trans (hHeld.2.2.2.2.1)
                       have HS5_ := (hb.cell (World.block_lt_of_cell? _ _ (hHeld.2.2.2.2.2.1))).trans (hHeld.2.2.2.2.2.1)
                       have HS6_ := (hb.cell (World.block_lt_of_cell? _ _ (hHeld.2.2.2.2.2.2.1))).trans (hHeld.2.2.2.2.2.2.1)
                       have HS7_ := (hb.cell (World.block_lt_of_cell? _ _ (hHeld.2.2.2.2.2.2.2.1))).trans (hHeld.2.2.2.2.2.2.2.1)
                       have HS8_ := (hb.cell (World.block_lt_of_cell? _ _ (hHeld.2.2.2.2.2.2.2.2.1))).trans (hHeld.2.2.2.2.2.2.2.2.1)
                       have HS9_ := (hb.cell (World.block_lt_of_cell? _ _ (hHeld.2.2.2.2.2.2.2.2.2.1))).trans (hHeld.2.2.2.2.2.2.2.2.2.1)
                       have HS10_ := (hb.cell (World.block_lt_of_cell? _ _ (hHeld.2.2.2.2.2.2.2.2.2.2.1))).trans (hHeld.2.2.2.2.2.2.2.2.2.2.1)
                       have HS11_ := (hb.cell (World.block_lt_of_cell? _ _ (hHeld.2.2.2.2.2.2.2.2.2.2.2.1))).trans (hHeld.2.2.2.2.2.2.2.2.2.2.2.1)
                       have HS12_ := (hb.cell (World.block_lt_of_cell? _ _ (hHeld.2.2.2.2.2.2.2.2.2.2.2.2.1))).trans (hHeld.2.2.2.2.2.2.2.2.2.2.2.2.1)
                       have HS13_ := (hb.cell (World.block_lt_of_cell? _ _ (hHeld.2.2.2.2.2.2.2.2.2.2.2.2.2.1))).trans (hHeld.2.2.2.2.2.2.2.2.2.2.2.2.2.1)
                       have HS14_ := (hb.cell (World.block_lt_of_cell? _ _ (hHeld.2.2.2.2.2.2.2.2.2.2.2.2.2.2.1))).trans (hHeld.2.2.2.2.2.2.2.2.2.2.2.2.2.2.1)
                       have HS15_ := (hb.cell (World.block_lt_of_cell? _ _ (hHeld.2.2.2.2.2.2.2.2.2.2.2.2.2.2.2.1))).trans (hHeld.2.2.2.2.2.2.2.2.2.2.2.2.2.2.2.1)
                       have HS16_ := (hb.cell (World.block_lt_of_cell? _ _ (hHeld.2.2.2.2.2.2.2.2.2.2.2.2.2.2.2.2.1))).trans (hHeld.2.2.2.2.2.2.2.2.2.2.2.2.2.2.2.2.1)
                       have HS17_ := (hb.cell (World.block_lt_of_cell? _ _ (hHeld.2.2.2.2.2.2.2.2.2.2.2.2.2.2.2.2.2.1))).trans (hHeld.2.2.2.2.2.2.2.2.2.2.2.2.2.2.2.2.2.1)
                       have HS18_ := (hb.cell (World.block_lt_of_cell? _ _ (hHeld.2.2.2.2.2.2.2.2.2.2.2.2.2.2.2.2.2.2.1))).trans (hHeld.2.2.2.2.2.2.2.2.2.2.2.2.2.2.2.2.2.2.1)
                       have HS19_ := (hb.cell (World.block_lt_of_cell? _ _ (hHeld.2.2.2.2.2.2.2.2.2.2.2.2.2.2.2.2.2.2.2))).trans (hHeld.2.2.2.2.2.2.2.2.2.2.2.2.2.2.2.2.2.2.2)
                       refine ⟨_, rfl, ?_⟩
                       have n0_ := Aside0.mk (Kd.S_below (by (with_reducible repeat (first | apply Kd.S_alloc | apply Kd.S_drewN | apply Kd.S_drew)); exact HO_5.out) hb)
                       have n1_ := Aside0.mk (Kd.S_below (by (with_reducible repeat (first | apply Kd.S_alloc | apply Kd.S_drewN | apply Kd.S_drew)); exact HO_8.out) hb)
                       have n2_ := Aside0.mk (Kd.S_below (by (with_reducible repeat (first | apply Kd.S_alloc | apply Kd.S_drewN | apply Kd.S_drew)); exact HO_11.out) hb)
                       have n3_ := Aside0.mk (Kd.R_below (by (with_reducible repeat (first | apply Kd.R_alloc | apply Kd.R_drewN | apply Kd.R_drew)); exact HL183_3.out) hb)
                       have n4_ := Aside0.mk (Kd.R_below (by (with_reducible repeat (first | apply Kd.R_alloc | apply Kd.R_drewN | apply Kd.R_drew)); exact HL184_3.out) hb)
                       have n5_ := Aside0.mk (Kd.C_below (by repeat (first | (with_reducible exact HR183_3.out) | (with_reducible refine Kd.C_alloc ?_ _) | (with_reducible refine Kd.C_drewN ?_ _) | (with_reducible refine Kd.C_drew ?_) | exact HR183_3.out)) hb)
                       have n6_ := Aside0.mk (Kd.C_below (by repeat (first | (with_reducible exact HR184_3.out) | (with_reducible refine Kd.C_alloc ?_ _) | (with_reducible refine Kd.C_drewN ?_ _) | (with_reducible refine Kd.C_drew ?_) | exact HR184_3.out)) hb)
                       have n7_ := Aside0.mk (below_step (by repeat (first | (with_reducible first | exact HB.out | apply below_alloc | apply pw_below_drewN | apply below_drew1) | exact HB.out)) hb)
                       clear HO_5
                       clear HO_8
                       clear HO_11
                       clear HL183_3
                       clear HL184_3
                       clear HR183_3
                       clear HR184_3
                       clear HB
                       have HO_5 := n0_
                       have HO_8 := n1_
                       have HO_11 := n2_
                       have HL183_3 := n3_
                       have HL184_3 := n4_
                       have HR183_3 := n5_
                       have HR184_3 := n6_
                       have HB := n7_
                       clear n0_ n1_ n2_ n3_ n4_ n5_ n6_ n7_
                       (try clear hb)
                       (try clear hb2)
                       (try clear hk)
                       (try clear hi)
                       refine hK.out _ _ ⟨HS0_, HS1_, HS2_, HS3_, HS4_, HS5_, HS6_, HS7_, HS8_, HS9_, HS10_, HS11_, HS12_, HS13_, HS14_, HS15_, HS16_, HS17_, HS18_, HS19_⟩ (fun hHeld => ?_)
                       clear hK K
                       refine norm_ (a' := ?_) ?_ ?_
                       rotate_left
                       ·
                        show Act.put _ (some 124) _ = _
                        simp only [Act.put, q_row, q_zero, q_succ, i64_w, i32_w]
                        rfl
                       refine pure_ (i := 17) (N := some 125) (v := ?_) (a' := ?_) #[true, true, true, true, true, true, true, true, true, true, true, true, true, true, true, true, true, true, false, false, false, false, false, false, false, false, false, false, false, false, false, false, false, false, false, false, false, false, false] rfl rfl (any_of HT_.out (by kernel_rfl)) (fun _ _ _ h => h) (Or.inl ⟨by rfl, ?_⟩) ?_ ?_
                       rotate_left
                       · intro w'; go_simp; with_reducible rfl
                       rotate_left
                       ·
                        simp only [Act.put, q_row, q_zero, q_succ, i64_w, i32_w]
                        rfl
                       refine pure_ (i := 18) (N := some 126) (v := ?_) (a' := ?_) #[true, true, true, true, true, true, true, true, true, true, true, true, true, true, true, true, true, true, true, false, false, false, false, false, false, false, false, false, false, false, false, false, false, false, false, false, false, false, false] rfl rfl (any_of HT_.out (by kernel_rfl)) (fun _ _ _ h => h) (Or.inl ⟨by rfl, ?_⟩) ?_ ?_
                       rotate_left
                       · intro w'; go_simp; with_reducible rfl
                       rotate_left
                       ·
                        simp only [Act.put, q_row, q_zero, q_succ, i64_w, i32_w]
                        rfl
                       refine pure_ (i := 19) (N := some 127) (v := ?_) (a' := ?_) #[true, true, true, true, true, true, true, true, true, true, true, true, true, true, true, true, true, true, true, true, false, false, false, false, false, false, false, false, false, false, false, false, false, false, false, false, false, false, false] rfl rfl (any_of HT_.out (by kernel_rfl)) (fun _ _ _ h => h) (Or.inl ⟨by rfl, ?_⟩) ?_ ?_
                       rotate_left
                       · intro w'; go_simp; with_reducible rfl
                       rotate_left
                       ·
                        simp only [Act.put, q_row, q_zero, q_succ, i64_w, i32_w]
                        rfl
                       refine pure_ (i := 20) (N := some 128) (v := ?_) (a' := ?_) #[true, true, true, true, true, true, true, true, true, true, true, true, true, true, true, true, true, true, true, true, true, false, false, false, false, false, false, false, false, false, false, false, false, false, false, false, false, false, false] rfl rfl (any_of HT_.out (by kernel_rfl)) (fun _ _ _ h => h) (Or.inl ⟨by rfl, ?_⟩) ?_ ?_
                       rotate_left
                       · intro w'; go_simp; with_reducible rfl
                       rotate_left
                       ·
                        simp only [Act.put, q_row, q_zero, q_succ, i64_w, i32_w]
                        rfl
                       refine pure_ (i := 21) (N := some 129) (v := ?_) (a' := ?_) #[true, true, true, true, true, true, true, true, true, true, true, true, true, true, true, true, true, true, true, true, true, true, false, false, false, false, false, false, false, false, false, false, false, false, false, false, false, false, false] rfl rfl (any_of HT_.out (by kernel_rfl)) (fun _ _ _ h => h) (Or.inl ⟨by rfl, ?_⟩) ?_ ?_
                       rotate_left
                       · intro w'; go_simp; with_reducible rfl
                       rotate_left
                       ·
                        simp only [Act.put, q_row, q_zero, q_succ, i64_w, i32_w]
                        rfl
                       refine pure_ (i := 22) (N := some 130) (v := ?_) (a' := ?_) #[true, true, true, true, true, true, true, true, true, true, true, true, true, true, true, true, true, true, true, true, true, true, true, false, false, false, false, false, false, false, false, false, false, false, false, false, false, false, false] rfl rfl (any_of HT_.out (by kernel_rfl)) (fun _ _ _ h => h) (Or.inl ⟨by rfl, ?_⟩) ?_ ?_
                       rotate_left
                       · intro w'; go_simp; with_reducible rfl
                       rotate_left
                       ·
                        simp only [Act.put, q_row, q_zero, q_succ, i64_w, i32_w]
                        rfl
                       refine pure_ (i := 24) (N := some 132) (v := ?_) (a' := ?_) #[true, true, true, true, true, true, true, true, true, true, true, true, true, true, true, true, true, true, true, true, true, true, true, false, true, false, false, false, false, false, false, false, false, false, false, false, false, false, false] rfl rfl (any_of HT_.out (by kernel_rfl)) (fun _ _ _ h => h) (Or.inl ⟨by rfl, ?_⟩) ?_ ?_
                       rotate_left
                       · intro w'; go_simp; with_reducible rfl
                       rotate_left
                       ·
                        simp only [Act.put, q_row, q_zero, q_succ, i64_w, i32_w]
                        rfl
                       refine pure_ (i := 25) (N := some 133) (v := ?_) (a' := ?_) #[true, true, true, true, true, true, true, true, true, true, true, true, true, true, true, true, true, true, true, true, true, true, true, false, true, true, false, false, false, false, false, false, false, false, false, false, false, false, false] rfl rfl (any_of HT_.out (by kernel_rfl)) (fun _ _ _ h => h) (Or.inl ⟨by rfl, ?_⟩) ?_ ?_
                       rotate_left
                       · intro w'; go_simp; with_reducible rfl
                       rotate_left
                       ·
                        simp only [Act.put, q_row, q_zero, q_succ, i64_w, i32_w]
                        rfl
                       refine pure_ (i := 26) (N := some 134) (v := ?_) (a' := ?_) #[true, true, true, true, true, true, true, true, true, true, true, true, true, true, true, true, true, true, true, true, true, true, true, false, true, true, true, false, false, false, false, false, false, false, false, false, false, false, false] rfl rfl (any_of HT_.out (by kernel_rfl)) (fun _ _ _ h => h) (Or.inl ⟨by rfl, ?_⟩) ?_ ?_
                       rotate_left
                       · intro w'; go_simp; with_reducible rfl
                       rotate_left
                       ·
                        simp only [Act.put, q_row, q_zero, q_succ, i64_w, i32_w]
                        rfl
                       refine pure_ (i := 27) (N := some 135) (v := ?_) (a' := ?_) #[true, true, true, true, true, true, true, true, true, true, true, true, true, true, true, true, true, true, true, true, true, true, true, false, true, true, true, true, false, false, false, false, false, false, false, false, false, false, false] rfl rfl (any_of HT_.out (by kernel_rfl)) (fun _ _ _ h => h) (Or.inl ⟨by rfl, ?_⟩) ?_ ?_
                       rotate_left
                       · intro w'; go_simp; with_reducible rfl
                       rotate_left
                       ·
                        simp only [Act.put, q_row, q_zero, q_succ, i64_w, i32_w]
                        rfl
                       refine pure_ (i := 28) (N := some 136) (v := ?_) (a' := ?_) #[true, true, true, true, true, true, true, true, true, true, true, true, true, true, true, true, true, true, true, true, true, true, true, false, true, true, true, true, true, false, false, false, false, false, false, false, false, false, false] rfl rfl (any_of HT_.out (by kernel_rfl)) (fun _ _ _ h => h) (Or.inl ⟨by rfl, ?_⟩) ?_ ?_
                       rotate_left
                       · intro w'; go_simp; with_reducible rfl
                       rotate_left
                       ·
                        simp only [Act.put, q_row, q_zero, q_succ, i64_w, i32_w]
                        rfl
                       refine pure_ (i := 29) (N := some 137) (v := ?_) (a' := ?_) #[true, true, true, true, true, true, true, true, true, true, true, true, true, true, true, true, true, true, true, true, true, true, true, false, true, true, true, true, true, true, false, false, false, false, false, false, false, false, false] rfl rfl (any_of HT_.out (by kernel_rfl)) (fun _ _ _ h => h) (Or.inl ⟨by rfl, ?_⟩) ?_ ?_
                       rotate_left
                       · intro w'; go_simp; with_reducible rfl
                       rotate_left
                       ·
                        simp only [Act.put, q_row, q_zero, q_succ, i64_w, i32_w]
                        rfl
                       refine pure_ (i := 30) (N := some 138) (v := ?_) (a' := ?_) #[true, true, true, true, true, true, true, true, true, true, true, true, true, true, true, true, true, true, true, true, true, true, true, false, true, true, true, true, true, true, true, false, false, false, false, false, false, false, false] rfl rfl (any_of HT_.out (by kernel_rfl)) (fun _ _ _ h => h) (Or.inl ⟨by rfl, ?_⟩) ?_ ?_
                       rotate_left
                       · intro w'; go_simp; with_reducible rfl
                       rotate_left
                       ·
                        simp only [Act.put, q_row, q_zero, q_succ, i64_w, i32_w]
                        rfl
                       refine pure_ (i := 32) (N := some 140) (v := ?_) (a' := ?_) #[true, true, true, true, true, true, true, true, true, true, true, true, true, true, true, true, true, true, true, true, true, true, true, false, true, true, true, true, true, true, true, false, true, false, false, false, false, false, false] rfl rfl (any_of HT_.out (by kernel_rfl)) (fun _ _ _ h => h) (Or.inl ⟨by rfl, ?_⟩) ?_ ?_
                       rotate_left
                       · intro w'; go_simp; with_reducible rfl
                       rotate_left
                       ·
                        simp only [Act.put, q_row, q_zero, q_succ, i64_w, i32_w]
                        rfl
                       refine pure_ (i := 33) (N := some 141) (v := ?_) (a' := ?_) #[true, true, true, true, true, true, true, true, true, true, true, true, true, true, true, true, true, true, true, true, true, true, true, false, true, true, true, true, true, true, true, false, true, true, false, false, false, false, false] rfl rfl (any_of HT_.out (by kernel_rfl)) (fun _ _ _ h => h) (Or.inl ⟨by rfl, ?_⟩) ?_ ?_
                       rotate_left
                       · intro w'; go_simp; with_reducible rfl
                       rotate_left
                       ·
                        simp only [Act.put, q_row, q_zero, q_succ, i64_w, i32_w]
                        rfl
                       refine take_ (i := 23) (N := some 131) (v := ?_) (a' := ?_) #[true, true, true, true, true, true, true, true, true, true, true, true, true, true, true, true, true, true, true, true, true, true, true, true, true, true, true, true, true, true, true, false, true, true, false, false, false, false, false] rfl rfl (take_ofW HT_.out HW_.out (by kernel_rfl)) (fun _ _ _ h => h) (Or.inl ⟨by rfl, ?_⟩) hHeld ?_ ?_
                       rotate_left
                       ·
                        rintro w' ⟨s0, s1, s2, s3, s4, s5, s6, s7, s8, s9, s10, s11, s12, s13, s14, s15, s16, s17, s18, s19⟩
                        go_simp
                        with_reducible rfl
                       rotate_left
                       ·
                        simp only [Act.put, q_row, q_zero, q_succ, i64_w, i32_w]
                        rfl
                       refine take_ (i := 31) (N := some 139) (v := ?_) (a' := ?_) #[true, true, true, true, true, true, true, true, true, true, true, true, true, true, true, true, true, true, true, true, true, true, true, true, true, true, true, true, true, true, true, true, true, true, false, false, false, false, false] rfl rfl (take_ofW HT_.out HW_.out (by kernel_rfl)) (fun _ _ _ h => h) (Or.inl ⟨by rfl, ?_⟩) hHeld ?_ ?_
                       rotate_left
                       ·
                        rintro w' ⟨s0, s1, s2, s3, s4, s5, s6, s7, s8, s9, s10, s11, s12, s13, s14, s15, s16, s17, s18, s19⟩
                        go_simp
                        with_reducible rfl
                       rotate_left
                       ·
                        simp only [Act.put, q_row, q_zero, q_succ, i64_w, i32_w]
                        rfl
                       refine pure_ (i := 34) (N := some 142) (v := ?_) (a' := ?_) #[true, true, true, true, true, true, true, true, true, true, true, true, true, true, true, true, true, true, true, true, true, true, true, true, true, true, true, true, true, true, true, true, true, true, true, false, false, false, false] rfl rfl (any_of HT_.out (by kernel_rfl)) (fun _ _ _ h => h) (Or.inl ⟨by rfl, ?_⟩) ?_ ?_
                       rotate_left
                       · intro w'; go_simp; with_reducible rfl
                       rotate_left
                       ·
                        simp only [Act.put, q_row, q_zero, q_succ, i64_w, i32_w]
                        rfl
                       refine pure_ (i := 35) (N := some 143) (v := ?_) (a' := ?_) #[true, true, true, true, true, true, true, true, true, true, true, true, true, true, true, true, true, true, true, true, true, true, true, true, true, true, true, true, true, true, true, true, true, true, true, true, false, false, false] rfl rfl (any_of HT_.out (by kernel_rfl)) (fun _ _ _ h => h) (Or.inl ⟨by rfl, ?_⟩) ?_ ?_
                       rotate_left
                       · intro w'; go_simp; with_reducible rfl
                       rotate_left
                       ·
                        simp only [Act.put, q_row, q_zero, q_succ, i64_w, i32_w]
                        rfl
                       refine pure_ (i := 36) (N := some 144) (v := ?_) (a' := ?_) #[true, true, true, true, true, true, true, true, true, true, true, true, true, true, true, true, true, true, true, true, true, true, true, true, true, true, true, true, true, true, true, true, true, true, true, true, true, false, false] rfl rfl (any_of HT_.out (by kernel_rfl)) (fun _ _ _ h => h) (Or.inl ⟨by rfl, ?_⟩) ?_ ?_
                       rotate_left
                       · intro w'; go_simp; with_reducible rfl
                       rotate_left
                       ·
                        simp only [Act.put, q_row, q_zero, q_succ, i64_w, i32_w]
                        rfl
                       refine pure_ (i := 37) (N := some 145) (v := ?_) (a' := ?_) #[true, true, true, true, true, true, true, true, true, true, true, true, true, true, true, true, true, true, true, true, true, true, true, true, true, true, true, true, true, true, true, true, true, true, true, true, true, true, false] rfl rfl (any_of HT_.out (by kernel_rfl)) (fun _ _ _ h => h) (Or.inl ⟨by rfl, ?_⟩) ?_ ?_
                       rotate_left
                       · intro w'; go_simp; with_reducible rfl
                       rotate_left
                       ·
                        simp only [Act.put, q_row, q_zero, q_succ, i64_w, i32_w]
                        rfl
                       refine pure_ (i := 38) (N := some 146) (v := ?_) (a' := ?_) #[true, true, true, true, true, true, true, true, true, true, true, true, true, true, true, true, true, true, true, true, true, true, true, true, true, true, true, true, true, true, true, true, true, true, true, true, true, true, true] rfl rfl (any_of HT_.out (by kernel_rfl)) (fun _ _ _ h => h) (Or.inl ⟨by rfl, ?_⟩) ?_ ?_
                       rotate_left
                       · intro w'; go_simp; with_reducible rfl
                       rotate_left
                       ·
                        simp only [Act.put, q_row, q_zero, q_succ, i64_w, i32_w]
                        rfl
                       refine done_ (done_of HT_.out (by kernel_rfl)) ?_
                       try go_wp2
                       go_ret
                       exact ⟨by first | rfl | (simp [errW_none, errW_some] <;> rfl) | (simp only [← hji46]; first | rfl | (simp [errW_none, errW_some] <;> rfl)) | (simp [*, errW_none, errW_some] <;> rfl), by repeat (first | (with_reducible first | exact HB.out | apply below_alloc | apply pw_below_drewN | apply below_drew1) | exact HB.out)⟩
                     ·
                      replace c50 := Bool.eq_false_iff.mpr c50
                      subst c50
                      have H1 : (some false) = some r := by rw [if_neg (show ¬ (false = true) by decide)] at H; exact H
                      clear H
                      have H := H1
                      clear H1
                      obtain rfl := Option.some.inj H
                      try go_wp2
                      have n0_ := Aside0.mk (Kd.S_drew HO_5.out)
                      have n1_ := Aside0.mk (Kd.S_drew HO_8.out)
                      have n2_ := Aside0.mk (Kd.S_drew HO_11.out)
                      have n3_ := Aside0.mk (below_drew1 HB.out)
                      clear HO_5
                      clear HO_8
                      clear HO_11
                      clear HB
                      have HO_5 := n0_
                      have HO_8 := n1_
                      have HO_11 := n2_
                      have HB := n3_
                      clear n0_ n1_ n2_ n3_
                      obtain ⟨Ao61, co61, eo61⟩ := Kd.S_slice HO_5.out
                      (first | subst eo61 | (injection eo61 with f1_ f2_ f3_; have f4_ := f1_.symm; have f5_ := f3_.symm; clear f1_ f2_ f3_; subst f4_; subst f5_))
                      have p183 : 0 ≤ (x14_3 : Int) := of_decide_eq_true (by first | (with_reducible assumption) | assumption)
                      have q183 : x14_3 < (t173.length : Int) := of_decide_eq_true (by first | (with_reducible assumption) | assumption)
                      obtain ⟨ad183, A183_3, c183_3, e183, hx183_0, hx183_1, hx183_2, hx183_3, hx183_4, hl183_3, hi183_3⟩ := at_T33 (Kd.S_reads' HO_11.out).2.2 x14_3 p183 q183
                      cases e183
                      obtain ⟨ce183, hce183, hMe183, hcc183⟩ := Kd.S_get HO_11.out z33 x14_3 p183 (by first | exact q183 | exact of_decide_eq_true (by first | (with_reducible assumption) | assumption) | (have e_ := (Kd.S_reads' HO_11.out).1; omega))
                      obtain ⟨ve183_3, rfl, ge183_3⟩ := k33_openM hMe183
                      have hv183_3 := hcc183 3 _ rfl
                      rw [add_field _ _ 3 (by omega)] at hv183_3
                      replace hv183_3 := Option.some.inj (hv183_3.symm.trans hx183_3)
                      rw [hv183_3] at ge183_3
                      have HL183_3 := Aside0.mk (show Kd.R (Kd.int .u8) 5 _ _ _ _ ((rd_T33 t173 x14_3).f3) from ge183_3)
                      clear hv183_3 ge183_3
                      clear hcc183 hce183
                      have HR183_3 := Aside0.mk hi183_3
                      have HC183_3 := Aside0.mk hl183_3
                      clear hi183_3 hl183_3
                      replace p183 := eq_true p183
                      replace q183 := eq_true q183
                      obtain ⟨Ao62, co62, eo62⟩ := Kd.S_slice HO_8.out
                      (first | subst eo62 | (injection eo62 with f1_ f2_ f3_; have f4_ := f1_.symm; have f5_ := f3_.symm; clear f1_ f2_ f3_; subst f4_; subst f5_))
                      have p184 : 0 ≤ ((ji46) : Int) := of_decide_eq_true (by first | (with_reducible assumption) | assumption)
                      have q184 : (ji46) < (t168.length : Int) := of_decide_eq_true (by first | (with_reducible assumption) | assumption)
                      obtain ⟨ad184, A184_3, c184_3, e184, hx184_0, hx184_1, hx184_2, hx184_3, hx184_4, hl184_3, hi184_3⟩ := at_T33 (Kd.S_reads' HO_8.out).2.2 (ji46) p184 q184
                      cases e184
                      obtain ⟨ce184, hce184, hMe184, hcc184⟩ := Kd.S_get HO_8.out z33 (ji46) p184 (by first | exact q184 | exact of_decide_eq_true (by first | (with_reducible assumption) | assumption) | (have e_ := (Kd.S_reads' HO_8.out).1; omega))
                      obtain ⟨ve184_3, rfl, ge184_3⟩ := k33_openM hMe184
                      have hv184_3 := hcc184 3 _ rfl
                      rw [add_field _ _ 3 (by omega)] at hv184_3
                      replace hv184_3 := Option.some.inj (hv184_3.symm.trans hx184_3)
                      rw [hv184_3] at ge184_3
                      have HL184_3 := Aside0.mk (show Kd.R (Kd.int .u8) 5 _ _ _ _ ((rd_T33 t168 (ji46)).f3) from ge184_3)
                      clear hv184_3 ge184_3
                      clear hcc184 hce184
                      have HR184_3 := Aside0.mk hi184_3
                      have HC184_3 := Aside0.mk hl184_3
                      clear hi184_3 hl184_3
                      replace p184 := eq_true p184
                      replace q184 := eq_true q184
                      refine start_ (n := 39) (S := fun w' => w'.cell? (ad183.add ((x14_3).toNat * 5)) = some (.int .i64 ((rd_T33 t173 x14_3).f0)) ∧ w'.cell? ⟨(ad183.add ((x14_3).toNat * 5)).block, (ad183.add ((x14_3).toNat * 5)).off + 1, none⟩ = some (.string ((rd_T33 t173 x14_3).f1)) ∧ w'.cell? ⟨(ad183.add ((x14_3).toNat * 5)).block, (ad183.add ((x14_3).toNat * 5)).off + 2, none⟩ = some (.int .i64 ((rd_T33 t173 x14_3).f2)) ∧ w'.cell? ⟨(ad183.add ((x14_3).toNat * 5)).block, (ad183.add ((x14_3).toNat * 5)).off + 3, none⟩ = some (.slice A183_3 ((rd_T33 t173 x14_3).f3).length c183_3) ∧ w'.cell? ⟨(ad183.add ((x14_3).toNat * 5)).block, (ad183.add ((x14_3).toNat * 5)).off + 4, none⟩ = some (.int .i64 ((rd_T33 t173 x14_3).f4)) ∧ w'.cell? (ad184.add (((ji46)).toNat * 5)) = some (.int .i64 ((rd_T33 t168 (ji46)).f0)) ∧ w'.cell? ⟨(ad184.add (((ji46)).toNat * 5)).block, (ad184.add (((ji46)).toNat * 5)).off + 1, none⟩ = some (.string ((rd_T33 t168 (ji46)).f1)) ∧ w'.cell? ⟨(ad184.add (((ji46)).toNat * 5)).block, (ad184.add (((ji46)).toNat * 5)).off + 2, none⟩ = some (.int .i64 ((rd_T33 t168 (ji46)).f2)) ∧ w'.cell? ⟨(ad184.add (((ji46)).toNat * 5)).block, (ad184.add (((ji46)).toNat * 5)).off + 3, none⟩ = some (.slice A184_3 ((rd_T33 t168 (ji46)).f3).length c184_3) ∧ w'.cell? ⟨(ad184.add (((ji46)).toNat * 5)).block, (ad184.add (((ji46)).toNat * 5)).off + 4, none⟩ = some (.int .i64 ((rd_T33 t168 (ji46)).f4))) (ds := []) #[false, false, false, false, false, false, false, false, false, false, false, false, false, false, false, false, false, false, false, false, false, false, false, false, false, false, false, false, false, false, false, false, false, false, false, false, false, false, false] (by kernel_rfl) rfl rfl ⟨hx183_0, hx183_1, hx183_2, hx183_3, hx183_4, hx184_0, hx184_1, hx184_2, hx184_3, hx184_4⟩ (fun hHeld => ?_); refine with_tabW rookerylaw15_LexJoins.tab15 rookerylaw15_LexJoins.bits15 (fun HT_ HW_ => ?_)
                      generalize wc.drew = w60 at HO_5 HO_8 HO_11 HB HL183_3 HL184_3 HR183_3 HR184_3 hx183_0 hx183_1 hx183_2 hx183_3 hx183_4 hx184_0 hx184_1 hx184_2 hx184_3 hx184_4 hHeld ⊢
                      refine pure_ (i := 0) (N := some 108) (v := ?_) (a' := ?_) #[true, false, false, false, false, false, false, false, false, false, false, false, false, false, false, false, false, false, false, false, false, false, false, false, false, false, false, false, false, false, false, false, false, false, false, false, false, false, false] rfl rfl (any_of HT_.out (by kernel_rfl)) (fun _ _ _ h => h) (Or.inl ⟨by rfl, ?_⟩) ?_ ?_
                      rotate_left
                      · intro w'; go_simp; with_reducible rfl
                      rotate_left
                      ·
                       simp only [Act.put, q_row, q_zero, q_succ, i64_w, i32_w]
                       rfl
                      refine pure_ (i := 1) (N := some 109) (v := ?_) (a' := ?_) #[true, true, false, false, false, false, false, false, false, false, false, false, false, false, false, false, false, false, false, false, false, false, false, false, false, false, false, false, false, false, false, false, false, false, false, false, false, false, false] rfl rfl (any_of HT_.out (by kernel_rfl)) (fun _ _ _ h => h) (Or.inl ⟨by rfl, ?_⟩) ?_ ?_
                      rotate_left
                      · intro w'; go_simp; with_reducible rfl
                      rotate_left
                      ·
                       simp only [Act.put, q_row, q_zero, q_succ, i64_w, i32_w]
                       rfl
                      refine pure_ (i := 2) (N := some 110) (v := ?_) (a' := ?_) #[true, true, true, false, false, false, false, false, false, false, false, false, false, false, false, false, false, false, false, false, false, false, false, false, false, false, false, false, false, false, false, false, false, false, false, false, false, false, false] rfl rfl (any_of HT_.out (by kernel_rfl)) (fun _ _ _ h => h) (Or.inl ⟨by rfl, ?_⟩) ?_ ?_
                      rotate_left
                      · intro w'; go_simp; with_reducible rfl
                      rotate_left
                      ·
                       simp only [Act.put, q_row, q_zero, q_succ, i64_w, i32_w]
                       rfl
                      refine pure_ (i := 3) (N := some 111) (v := ?_) (a' := ?_) #[true, true, true, true, false, false, false, false, false, false, false, false, false, false, false, false, false, false, false, false, false, false, false, false, false, false, false, false, false, false, false, false, false, false, false, false, false, false, false] rfl rfl (any_of HT_.out (by kernel_rfl)) (fun _ _ _ h => h) (Or.inl ⟨by rfl, ?_⟩) ?_ ?_
                      rotate_left
                      · intro w'; go_simp; with_reducible rfl
                      rotate_left
                      ·
                       simp only [Act.put, q_row, q_zero, q_succ, i64_w, i32_w]
                       rfl
                      refine pure_ (i := 4) (N := some 112) (v := ?_) (a' := ?_) #[true, true, true, true, true, false, false, false, false, false, false, false, false, false, false, false, false, false, false, false, false, false, false, false, false, false, false, false, false, false, false, false, false, false, false, false, false, false, false] rfl rfl (any_of HT_.out (by kernel_rfl)) (fun _ _ _ h => h) (Or.inl ⟨by rfl, ?_⟩) ?_ ?_
                      rotate_left
                      · intro w'; go_simp; with_reducible rfl
                      rotate_left
                      ·
                       simp only [Act.put, q_row, q_zero, q_succ, i64_w, i32_w]
                       rfl
                      refine pure_ (i := 5) (N := some 113) (v := ?_) (a' := ?_) #[true, true, true, true, true, true, false, false, false, false, false, false, false, false, false, false, false, false, false, false, false, false, false, false, false, false, false, false, false, false, false, false, false, false, false, false, false, false, false] rfl rfl (any_of HT_.out (by kernel_rfl)) (fun _ _ _ h => h) (Or.inl ⟨by rfl, ?_⟩) ?_ ?_
                      rotate_left
                      · intro w'; go_simp; with_reducible rfl
                      rotate_left
                      ·
                       simp only [Act.put, q_row, q_zero, q_succ, i64_w, i32_w]
                       rfl
                      refine pure_ (i := 6) (N := some 114) (v := ?_) (a' := ?_) #[true, true, true, true, true, true, true, false, false, false, false, false, false, false, false, false, false, false, false, false, false, false, false, false, false, false, false, false, false, false, false, false, false, false, false, false, false, false, false] rfl rfl (any_of HT_.out (by kernel_rfl)) (fun _ _ _ h => h) (Or.inl ⟨by rfl, ?_⟩) ?_ ?_
                      rotate_left
                      · intro w'; go_simp; with_reducible rfl
                      rotate_left
                      ·
                       simp only [Act.put, q_row, q_zero, q_succ, i64_w, i32_w]
                       rfl
                      refine pure_ (i := 7) (N := some 115) (v := ?_) (a' := ?_) #[true, true, true, true, true, true, true, true, false, false, false, false, false, false, false, false, false, false, false, false, false, false, false, false, false, false, false, false, false, false, false, false, false, false, false, false, false, false, false] rfl rfl (any_of HT_.out (by kernel_rfl)) (fun _ _ _ h => h) (Or.inl ⟨by rfl, ?_⟩) ?_ ?_
                      rotate_left
                      · intro w'; go_simp; with_reducible rfl
                      rotate_left
                      ·
                       simp only [Act.put, q_row, q_zero, q_succ, i64_w, i32_w]
                       rfl
                      refine pure_ (i := 9) (N := some 117) (v := ?_) (a' := ?_) #[true, true, true, true, true, true, true, true, false, true, false, false, false, false, false, false, false, false, false, false, false, false, false, false, false, false, false, false, false, false, false, false, false, false, false, false, false, false, false] rfl rfl (any_of HT_.out (by kernel_rfl)) (fun _ _ _ h => h) (Or.inl ⟨by rfl, ?_⟩) ?_ ?_
                      rotate_left
                      · intro w'; go_simp; with_reducible rfl
                      rotate_left
                      ·
                       simp only [Act.put, q_row, q_zero, q_succ, i64_w, i32_w]
                       rfl
                      refine pure_ (i := 10) (N := some 118) (v := ?_) (a' := ?_) #[true, true, true, true, true, true, true, true, false, true, true, false, false, false, false, false, false, false, false, false, false, false, false, false, false, false, false, false, false, false, false, false, false, false, false, false, false, false, false] rfl rfl (any_of HT_.out (by kernel_rfl)) (fun _ _ _ h => h) (Or.inl ⟨by rfl, ?_⟩) ?_ ?_
                      rotate_left
                      · intro w'; go_simp; with_reducible rfl
                      rotate_left
                      ·
                       simp only [Act.put, q_row, q_zero, q_succ, i64_w, i32_w]
                       rfl
                      refine pure_ (i := 11) (N := some 119) (v := ?_) (a' := ?_) #[true, true, true, true, true, true, true, true, false, true, true, true, false, false, false, false, false, false, false, false, false, false, false, false, false, false, false, false, false, false, false, false, false, false, false, false, false, false, false] rfl rfl (any_of HT_.out (by kernel_rfl)) (fun _ _ _ h => h) (Or.inl ⟨by rfl, ?_⟩) ?_ ?_
                      rotate_left
                      · intro w'; go_simp; with_reducible rfl
                      rotate_left
                      ·
                       simp only [Act.put, q_row, q_zero, q_succ, i64_w, i32_w]
                       rfl
                      refine pure_ (i := 12) (N := some 120) (v := ?_) (a' := ?_) #[true, true, true, true, true, true, true, true, false, true, true, true, true, false, false, false, false, false, false, false, false, false, false, false, false, false, false, false, false, false, false, false, false, false, false, false, false, false, false] rfl rfl (any_of HT_.out (by kernel_rfl)) (fun _ _ _ h => h) (Or.inl ⟨by rfl, ?_⟩) ?_ ?_
                      rotate_left
                      · intro w'; go_simp; with_reducible rfl
                      rotate_left
                      ·
                       simp only [Act.put, q_row, q_zero, q_succ, i64_w, i32_w]
                       rfl
                      refine pure_ (i := 13) (N := some 121) (v := ?_) (a' := ?_) #[true, true, true, true, true, true, true, true, false, true, true, true, true, true, false, false, false, false, false, false, false, false, false, false, false, false, false, false, false, false, false, false, false, false, false, false, false, false, false] rfl rfl (any_of HT_.out (by kernel_rfl)) (fun _ _ _ h => h) (Or.inl ⟨by rfl, ?_⟩) ?_ ?_
                      rotate_left
                      · intro w'; go_simp; with_reducible rfl
                      rotate_left
                      ·
                       simp only [Act.put, q_row, q_zero, q_succ, i64_w, i32_w]
                       rfl
                      refine pure_ (i := 14) (N := some 122) (v := ?_) (a' := ?_) #[true, true, true, true, true, true, true, true, false, true, true, true, true, true, true, false, false, false, false, false, false, false, false, false, false, false, false, false, false, false, false, false, false, false, false, false, false, false, false] rfl rfl (any_of HT_.out (by kernel_rfl)) (fun _ _ _ h => h) (Or.inl ⟨by rfl, ?_⟩) ?_ ?_
                      rotate_left
                      · intro w'; go_simp; with_reducible rfl
                      rotate_left
                      ·
                       simp only [Act.put, q_row, q_zero, q_succ, i64_w, i32_w]
                       rfl
                      refine take_ (i := 8) (N := some 116) (v := ?_) (a' := ?_) #[true, true, true, true, true, true, true, true, true, true, true, true, true, true, true, false, false, false, false, false, false, false, false, false, false, false, false, false, false, false, false, false, false, false, false, false, false, false, false] rfl rfl (take_ofW HT_.out HW_.out (by kernel_rfl)) (fun _ _ _ h => h) (Or.inl ⟨by rfl, ?_⟩) hHeld ?_ ?_
                      rotate_left
                      ·
                       rintro w' ⟨s0, s1, s2, s3, s4, s5, s6, s7, s8, s9⟩
                       go_simp
                       with_reducible rfl
                      rotate_left
                      ·
                       simp only [Act.put, q_row, q_zero, q_succ, i64_w, i32_w]
                       rfl
                      refine take_ (i := 15) (N := some 123) (v := ?_) (a' := ?_) #[true, true, true, true, true, true, true, true, true, true, true, true, true, true, true, true, false, false, false, false, false, false, false, false, false, false, false, false, false, false, false, false, false, false, false, false, false, false, false] rfl rfl (take_ofW HT_.out HW_.out (by kernel_rfl)) (fun _ _ _ h => h) (Or.inl ⟨by rfl, ?_⟩) hHeld ?_ ?_
                      rotate_left
                      ·
                       rintro w' ⟨s0, s1, s2, s3, s4, s5, s6, s7, s8, s9⟩
                       go_simp
                       with_reducible rfl
                      rotate_left
                      ·
                       simp only [Act.put, q_row, q_zero, q_succ, i64_w, i32_w]
                       rfl
                      refine one_ (i := 16) (N := some 124) #[true, true, true, true, true, true, true, true, true, true, true, true, true, true, true, true, true, false, false, false, false, false, false, false, false, false, false, false, false, false, false, false, false, false, false, false, false, false, false] rfl rfl (one_of HT_.out (by kernel_rfl)) (by decide) (fun K hK => ?_)
                      refine goes_ Tryd.func21 (by kernel_rfl) rfl #[.agg #[.int .i64 ((rd_T33 t173 x14_3).f0), .string ((rd_T33 t173 x14_3).f1), .int .i64 ((rd_T33 t173 x14_3).f2), .slice A183_3 ((rd_T33 t173 x14_3).f3).length c183_3, .int .i64 ((rd_T33 t173 x14_3).f4)], .agg #[.int .i64 ((rd_T33 t168 (ji46)).f0), .string ((rd_T33 t168 (ji46)).f1), .int .i64 ((rd_T33 t168 (ji46)).f2), .slice A184_3 ((rd_T33 t168 (ji46)).f3).length c184_3, .int .i64 ((rd_T33 t168 (ji46)).f4)]] (by rfl) rfl rfl (by (try simp only [List.map_toArray, List.map_cons, List.map_nil]); first | done | (simp only [hji46]; rfl) | rfl | (simp only [List.length_drop, List.length_take]; rfl)) ?_
                      with_reducible refine (rookeryref15_Same.calls ((rd_T33 t173 x14_3).f0) ((rd_T33 t173 x14_3).f1) ((rd_T33 t173 x14_3).f2) _ _ ((rd_T33 t173 x14_3).f3) ((rd_T33 t173 x14_3).f4) ((rd_T33 t168 (ji46)).f0) ((rd_T33 t168 (ji46)).f1) ((rd_T33 t168 (ji46)).f2) _ _ ((rd_T33 t168 (ji46)).f3) ((rd_T33 t168 (ji46)).f4) false _ ?side1 ?side2 ?side3 ?side4 A49.out).mono ?_
                      (case side1 => repeat (first | exact (by repeat (first | (with_reducible exact HR183_3.out) | (with_reducible refine Kd.C_alloc ?_ _) | (with_reducible refine Kd.C_drewN ?_ _) | (with_reducible refine Kd.C_drew ?_) | exact HR183_3.out)) | (with_reducible refine Kd.C_alloc ?_ _) | (with_reducible refine Kd.C_drewN ?_ _) | (with_reducible refine Kd.C_drew ?_)))
                      (case side2 => exact HC183_3.out)
                      (case side3 => repeat (first | exact (by repeat (first | (with_reducible exact HR184_3.out) | (with_reducible refine Kd.C_alloc ?_ _) | (with_reducible refine Kd.C_drewN ?_ _) | (with_reducible refine Kd.C_drew ?_) | exact HR184_3.out)) | (with_reducible refine Kd.C_alloc ?_ _) | (with_reducible refine Kd.C_drewN ?_ _) | (with_reducible refine Kd.C_drew ?_)))
                      (case side4 => exact HC184_3.out)
                      rintro e w63 ⟨rfl, hb⟩
                      have HS0_ := (hb.cell (World.block_lt_of_cell? _ _ (hHeld.1))).trans (hHeld.1)
                      have HS1_ := (hb.cell (World.block_lt_of_cell? _ _ (hHeld.2.1))).trans (hHeld.2.1)
                      have HS2_ := (hb.cell (World.block_lt_of_cell? _ _ (hHeld.2.2.1))).trans (hHeld.2.2.1)
                      have HS3_ := (hb.cell (World.block_lt_of_cell? _ _ (hHeld.2.2.2.1))).trans (hHeld.2.2.2.1)
                      have HS4_ := (hb.cell (World.block_lt_of_cell? _ _ (hHeld.2.2.2.2.1))).trans (hHeld.2.2.2.2.1)
                      have HS5_ := (hb.cell (World.block_lt_of_cell? _ _ (hHeld.2.2.2.2.2.1))).trans (hHeld.2.2.2.2.2.1)
                      have HS6_ := (hb.cell (World.block_lt_of_cell? _ _ (hHeld.2.2.2.2.2.2.1))).trans (hHeld.2.2.2.2.2.2.1)
                      have HS7_ := (hb.cell (World.block_lt_of_cell? _ _ (hHeld.2.2.2.2.2.2.2.1))).trans (hHeld.2.2.2.2.2.2.2.1)
                      have HS8_ := (hb.cell (World.block_lt_of_cell? _ _ (hHeld.2.2.2.2.2.2.2.2.1))).trans (hHeld.2.2.2.2.2.2.2.2.1)
                      have HS9_ := (hb.cell (World.block_lt_of_cell? _ _ (hHeld.2.2.2.2.2.2.2.2.2))).trans (hHeld.2.2.2.2.2.2.2.2.2)
                      refine ⟨_, rfl, ?_⟩
                      have n0_ := Aside0.mk (Kd.S_below (by (with_reducible repeat (first | apply Kd.S_alloc | apply Kd.S_drewN | apply Kd.S_drew)); exact HO_5.out) hb)
                      have n1_ := Aside0.mk (Kd.S_below (by (with_reducible repeat (first | apply Kd.S_alloc | apply Kd.S_drewN | apply Kd.S_drew)); exact HO_8.out) hb)
                      have n2_ := Aside0.mk (Kd.S_below (by (with_reducible repeat (first | apply Kd.S_alloc | apply Kd.S_drewN | apply Kd.S_drew)); exact HO_11.out) hb)
                      have n3_ := Aside0.mk (Kd.R_below (by (with_reducible repeat (first | apply Kd.R_alloc | apply Kd.R_drewN | apply Kd.R_drew)); exact HL183_3.out) hb)
                      have n4_ := Aside0.mk (Kd.R_below (by (with_reducible repeat (first | apply Kd.R_alloc | apply Kd.R_drewN | apply Kd.R_drew)); exact HL184_3.out) hb)
                      have n5_ := Aside0.mk (Kd.C_below (by repeat (first | (with_reducible exact HR183_3.out) | (with_reducible refine Kd.C_alloc ?_ _) | (with_reducible refine Kd.C_drewN ?_ _) | (with_reducible refine Kd.C_drew ?_) | exact HR183_3.out)) hb)
                      have n6_ := Aside0.mk (Kd.C_below (by repeat (first | (with_reducible exact HR184_3.out) | (with_reducible refine Kd.C_alloc ?_ _) | (with_reducible refine Kd.C_drewN ?_ _) | (with_reducible refine Kd.C_drew ?_) | exact HR184_3.out)) hb)
                      have n7_ := Aside0.mk (below_step (by repeat (first | (with_reducible first | exact HB.out | apply below_alloc | apply pw_below_drewN | apply below_drew1) | exact HB.out)) hb)
                      clear HO_5
                      clear HO_8
                      clear HO_11
                      clear HL183_3
                      clear HL184_3
                      clear HR183_3
                      clear HR184_3
                      clear HB
                      have HO_5 := n0_
                      have HO_8 := n1_
                      have HO_11 := n2_
                      have HL183_3 := n3_
                      have HL184_3 := n4_
                      have HR183_3 := n5_
                      have HR184_3 := n6_
                      have HB := n7_
                      clear n0_ n1_ n2_ n3_ n4_ n5_ n6_ n7_
                      (try clear hb)
                      (try clear hb2)
                      (try clear hk)
                      (try clear hi)
                      refine hK.out _ _ ⟨HS0_, HS1_, HS2_, HS3_, HS4_, HS5_, HS6_, HS7_, HS8_, HS9_⟩ (fun hHeld => ?_)
                      clear hK K
                      refine norm_ (a' := ?_) ?_ ?_
                      rotate_left
                      ·
                       show Act.put _ (some 124) _ = _
                       simp only [Act.put, q_row, q_zero, q_succ, i64_w, i32_w]
                       rfl
                      refine pure_ (i := 17) (N := some 125) (v := ?_) (a' := ?_) #[true, true, true, true, true, true, true, true, true, true, true, true, true, true, true, true, true, true, false, false, false, false, false, false, false, false, false, false, false, false, false, false, false, false, false, false, false, false, false] rfl rfl (any_of HT_.out (by kernel_rfl)) (fun _ _ _ h => h) (Or.inl ⟨by rfl, ?_⟩) ?_ ?_
                      rotate_left
                      · intro w'; go_simp; with_reducible rfl
                      rotate_left
                      ·
                       simp only [Act.put, q_row, q_zero, q_succ, i64_w, i32_w]
                       rfl
                      refine pure_ (i := 18) (N := some 126) (v := ?_) (a' := ?_) #[true, true, true, true, true, true, true, true, true, true, true, true, true, true, true, true, true, true, true, false, false, false, false, false, false, false, false, false, false, false, false, false, false, false, false, false, false, false, false] rfl rfl (any_of HT_.out (by kernel_rfl)) (fun _ _ _ h => h) (Or.inl ⟨by rfl, ?_⟩) ?_ ?_
                      rotate_left
                      · intro w'; go_simp; with_reducible rfl
                      rotate_left
                      ·
                       simp only [Act.put, q_row, q_zero, q_succ, i64_w, i32_w]
                       rfl
                      refine pure_ (i := 19) (N := some 127) (v := undef) (a' := ?_) #[true, true, true, true, true, true, true, true, true, true, true, true, true, true, true, true, true, true, true, true, false, false, false, false, false, false, false, false, false, false, false, false, false, false, false, false, false, false, false] rfl rfl (any_of HT_.out (by kernel_rfl)) (fun _ _ _ h => h) (Or.inr ⟨by rfl, rfl⟩) ?_ ?_
                      rotate_left
                      ·
                       simp only [Act.put, q_row, q_zero, q_succ, i64_w, i32_w]
                       rfl
                      refine pure_ (i := 20) (N := some 128) (v := undef) (a' := ?_) #[true, true, true, true, true, true, true, true, true, true, true, true, true, true, true, true, true, true, true, true, true, false, false, false, false, false, false, false, false, false, false, false, false, false, false, false, false, false, false] rfl rfl (any_of HT_.out (by kernel_rfl)) (fun _ _ _ h => h) (Or.inr ⟨by rfl, rfl⟩) ?_ ?_
                      rotate_left
                      ·
                       simp only [Act.put, q_row, q_zero, q_succ, i64_w, i32_w]
                       rfl
                      refine pure_ (i := 21) (N := some 129) (v := undef) (a' := ?_) #[true, true, true, true, true, true, true, true, true, true, true, true, true, true, true, true, true, true, true, true, true, true, false, false, false, false, false, false, false, false, false, false, false, false, false, false, false, false, false] rfl rfl (any_of HT_.out (by kernel_rfl)) (fun _ _ _ h => h) (Or.inr ⟨by rfl, rfl⟩) ?_ ?_
                      rotate_left
                      ·
                       simp only [Act.put, q_row, q_zero, q_succ, i64_w, i32_w]
                       rfl
                      refine pure_ (i := 22) (N := some 130) (v := undef) (a' := ?_) #[true, true, true, true, true, true, true, true, true, true, true, true, true, true, true, true, true, true, true, true, true, true, true, false, false, false, false, false, false, false, false, false, false, false, false, false, false, false, false] rfl rfl (any_of HT_.out (by kernel_rfl)) (fun _ _ _ h => h) (Or.inr ⟨by rfl, rfl⟩) ?_ ?_
                      rotate_left
                      ·
                       simp only [Act.put, q_row, q_zero, q_succ, i64_w, i32_w]
                       rfl
                      refine pure_ (i := 23) (N := some 131) (v := undef) (a' := ?_) #[true, true, true, true, true, true, true, true, true, true, true, true, true, true, true, true, true, true, true, true, true, true, true, true, false, false, false, false, false, false, false, false, false, false, false, false, false, false, false] rfl rfl (any_of HT_.out (by kernel_rfl)) (fun _ _ _ h => h) (Or.inr ⟨by rfl, rfl⟩) ?_ ?_
                      rotate_left
                      ·
                       simp only [Act.put, q_row, q_zero, q_succ, i64_w, i32_w]
                       rfl
                      refine pure_ (i := 24) (N := some 132) (v := undef) (a' := ?_) #[true, true, true, true, true, true, true, true, true, true, true, true, true, true, true, true, true, true, true, true, true, true, true, true, true, false, false, false, false, false, false, false, false, false, false, false, false, false, false] rfl rfl (any_of HT_.out (by kernel_rfl)) (fun _ _ _ h => h) (Or.inr ⟨by rfl, rfl⟩) ?_ ?_
                      rotate_left
                      ·
                       simp only [Act.put, q_row, q_zero, q_succ, i64_w, i32_w]
                       rfl
                      refine pure_ (i := 25) (N := some 133) (v := undef) (a' := ?_) #[true, true, true, true, true, true, true, true, true, true, true, true, true, true, true, true, true, true, true, true, true, true, true, true, true, true, false, false, false, false, false, false, false, false, false, false, false, false, false] rfl rfl (any_of HT_.out (by kernel_rfl)) (fun _ _ _ h => h) (Or.inr ⟨by rfl, rfl⟩) ?_ ?_
                      rotate_left
                      ·
                       simp only [Act.put, q_row, q_zero, q_succ, i64_w, i32_w]
                       rfl
                      refine pure_ (i := 26) (N := some 134) (v := undef) (a' := ?_) #[true, true, true, true, true, true, true, true, true, true, true, true, true, true, true, true, true, true, true, true, true, true, true, true, true, true, true, false, false, false, false, false, false, false, false, false, false, false, false] rfl rfl (any_of HT_.out (by kernel_rfl)) (fun _ _ _ h => h) (Or.inr ⟨by rfl, rfl⟩) ?_ ?_
                      rotate_left
                      ·
                       simp only [Act.put, q_row, q_zero, q_succ, i64_w, i32_w]
                       rfl
                      refine pure_ (i := 27) (N := some 135) (v := undef) (a' := ?_) #[true, true, true, true, true, true, true, true, true, true, true, true, true, true, true, true, true, true, true, true, true, true, true, true, true, true, true, true, false, false, false, false, false, false, false, false, false, false, false] rfl rfl (any_of HT_.out (by kernel_rfl)) (fun _ _ _ h => h) (Or.inr ⟨by rfl, rfl⟩) ?_ ?_
                      rotate_left
                      ·
                       simp only [Act.put, q_row, q_zero, q_succ, i64_w, i32_w]
                       rfl
                      refine pure_ (i := 28) (N := some 136) (v := undef) (a' := ?_) #[true, true, true, true, true, true, true, true, true, true, true, true, true, true, true, true, true, true, true, true, true, true, true, true, true, true, true, true, true, false, false, false, false, false, false, false, false, false, false] rfl rfl (any_of HT_.out (by kernel_rfl)) (fun _ _ _ h => h) (Or.inr ⟨by rfl, rfl⟩) ?_ ?_
                      rotate_left
                      ·
                       simp only [Act.put, q_row, q_zero, q_succ, i64_w, i32_w]
                       rfl
                      refine pure_ (i := 29) (N := some 137) (v := undef) (a' := ?_) #[true, true, true, true, true, true, true, true, true, true, true, true, true, true, true, true, true, true, true, true, true, true, true, true, true, true, true, true, true, true, false, false, false, false, false, false, false, false, false] rfl rfl (any_of HT_.out (by kernel_rfl)) (fun _ _ _ h => h) (Or.inr ⟨by rfl, rfl⟩) ?_ ?_
                      rotate_left
                      ·
                       simp only [Act.put, q_row, q_zero, q_succ, i64_w, i32_w]
                       rfl
                      refine pure_ (i := 30) (N := some 138) (v := undef) (a' := ?_) #[true, true, true, true, true, true, true, true, true, true, true, true, true, true, true, true, true, true, true, true, true, true, true, true, true, true, true, true, true, true, true, false, false, false, false, false, false, false, false] rfl rfl (any_of HT_.out (by kernel_rfl)) (fun _ _ _ h => h) (Or.inr ⟨by rfl, rfl⟩) ?_ ?_
                      rotate_left
                      ·
                       simp only [Act.put, q_row, q_zero, q_succ, i64_w, i32_w]
                       rfl
                      refine pure_ (i := 31) (N := some 139) (v := undef) (a' := ?_) #[true, true, true, true, true, true, true, true, true, true, true, true, true, true, true, true, true, true, true, true, true, true, true, true, true, true, true, true, true, true, true, true, false, false, false, false, false, false, false] rfl rfl (any_of HT_.out (by kernel_rfl)) (fun _ _ _ h => h) (Or.inr ⟨by rfl, rfl⟩) ?_ ?_
                      rotate_left
                      ·
                       simp only [Act.put, q_row, q_zero, q_succ, i64_w, i32_w]
                       rfl
                      refine pure_ (i := 32) (N := some 140) (v := undef) (a' := ?_) #[true, true, true, true, true, true, true, true, true, true, true, true, true, true, true, true, true, true, true, true, true, true, true, true, true, true, true, true, true, true, true, true, true, false, false, false, false, false, false] rfl rfl (any_of HT_.out (by kernel_rfl)) (fun _ _ _ h => h) (Or.inr ⟨by rfl, rfl⟩) ?_ ?_
                      rotate_left
                      ·
                       simp only [Act.put, q_row, q_zero, q_succ, i64_w, i32_w]
                       rfl
                      refine pure_ (i := 33) (N := some 141) (v := undef) (a' := ?_) #[true, true, true, true, true, true, true, true, true, true, true, true, true, true, true, true, true, true, true, true, true, true, true, true, true, true, true, true, true, true, true, true, true, true, false, false, false, false, false] rfl rfl (any_of HT_.out (by kernel_rfl)) (fun _ _ _ h => h) (Or.inr ⟨by rfl, rfl⟩) ?_ ?_
                      rotate_left
                      ·
                       simp only [Act.put, q_row, q_zero, q_succ, i64_w, i32_w]
                       rfl
                      refine pure_ (i := 34) (N := some 142) (v := undef) (a' := ?_) #[true, true, true, true, true, true, true, true, true, true, true, true, true, true, true, true, true, true, true, true, true, true, true, true, true, true, true, true, true, true, true, true, true, true, true, false, false, false, false] rfl rfl (any_of HT_.out (by kernel_rfl)) (fun _ _ _ h => h) (Or.inr ⟨by rfl, rfl⟩) ?_ ?_
                      rotate_left
                      ·
                       simp only [Act.put, q_row, q_zero, q_succ, i64_w, i32_w]
                       rfl
                      refine pure_ (i := 35) (N := some 143) (v := undef) (a' := ?_) #[true, true, true, true, true, true, true, true, true, true, true, true, true, true, true, true, true, true, true, true, true, true, true, true, true, true, true, true, true, true, true, true, true, true, true, true, false, false, false] rfl rfl (any_of HT_.out (by kernel_rfl)) (fun _ _ _ h => h) (Or.inr ⟨by rfl, rfl⟩) ?_ ?_
                      rotate_left
                      ·
                       simp only [Act.put, q_row, q_zero, q_succ, i64_w, i32_w]
                       rfl
                      refine pure_ (i := 36) (N := some 144) (v := undef) (a' := ?_) #[true, true, true, true, true, true, true, true, true, true, true, true, true, true, true, true, true, true, true, true, true, true, true, true, true, true, true, true, true, true, true, true, true, true, true, true, true, false, false] rfl rfl (any_of HT_.out (by kernel_rfl)) (fun _ _ _ h => h) (Or.inr ⟨by rfl, rfl⟩) ?_ ?_
                      rotate_left
                      ·
                       simp only [Act.put, q_row, q_zero, q_succ, i64_w, i32_w]
                       rfl
                      refine pure_ (i := 37) (N := some 145) (v := ?_) (a' := ?_) #[true, true, true, true, true, true, true, true, true, true, true, true, true, true, true, true, true, true, true, true, true, true, true, true, true, true, true, true, true, true, true, true, true, true, true, true, true, true, false] rfl rfl (any_of HT_.out (by kernel_rfl)) (fun _ _ _ h => h) (Or.inl ⟨by rfl, ?_⟩) ?_ ?_
                      rotate_left
                      · intro w'; go_simp; with_reducible rfl
                      rotate_left
                      ·
                       simp only [Act.put, q_row, q_zero, q_succ, i64_w, i32_w]
                       rfl
                      refine pure_ (i := 38) (N := some 146) (v := ?_) (a' := ?_) #[true, true, true, true, true, true, true, true, true, true, true, true, true, true, true, true, true, true, true, true, true, true, true, true, true, true, true, true, true, true, true, true, true, true, true, true, true, true, true] rfl rfl (any_of HT_.out (by kernel_rfl)) (fun _ _ _ h => h) (Or.inl ⟨by rfl, ?_⟩) ?_ ?_
                      rotate_left
                      · intro w'; go_simp; with_reducible rfl
                      rotate_left
                      ·
                       simp only [Act.put, q_row, q_zero, q_succ, i64_w, i32_w]
                       rfl
                      refine done_ (done_of HT_.out (by kernel_rfl)) ?_
                      try go_wp2
                      go_ret
                      exact ⟨by first | rfl | (simp [errW_none, errW_some] <;> rfl) | (simp only [← hji46]; first | rfl | (simp [errW_none, errW_some] <;> rfl)) | (simp [*, errW_none, errW_some] <;> rfl), by repeat (first | (with_reducible first | exact HB.out | apply below_alloc | apply pw_below_drewN | apply below_drew1) | exact HB.out)⟩
                    ·
                     rw [if_neg c48] at H
                     exact absurd H (by simp)
                   ·
                    rw [if_neg c47] at H
                    exact absurd H (by simp)
                  ·
                   rw [if_neg c45] at H
                   exact absurd H (by simp)
                 ·
                  rw [if_neg c44] at H
                  exact absurd H (by simp)
                ·
                 rw [if_neg c43] at H
                 have c43b0 : decide ((t163.length : Int) ≤ x14_3) = false := decide_eq_false c43
                 clear c43
                 have H' := Aside0.mk H
                 clear H
                 try go_wp2
                 have n0_ := Aside0.mk (Kd.S_drew HO_5.out)
                 have n1_ := Aside0.mk (Kd.S_drew HO_8.out)
                 have n2_ := Aside0.mk (Kd.S_drew HO_11.out)
                 have n3_ := Aside0.mk (below_drew1 HB.out)
                 clear HO_5
                 clear HO_8
                 clear HO_11
                 clear HB
                 have HO_5 := n0_
                 have HO_8 := n1_
                 have HO_11 := n2_
                 have HB := n3_
                 clear n0_ n1_ n2_ n3_
                 obtain ⟨Ao65, co65, eo65⟩ := Kd.S_slice HO_5.out
                 (first | subst eo65 | (injection eo65 with f1_ f2_ f3_; have f4_ := f1_.symm; have f5_ := f3_.symm; clear f1_ f2_ f3_; subst f4_; subst f5_))
                 refine start_ (n := 39) (S := fun w' => True) (ds := []) #[false, false, false, false, false, false, false, false, false, false, false, false, false, false, false, false, false, false, false, false, false, false, false, false, false, false, false, false, false, false, false, false, false, false, false, false, false, false, false] (by kernel_rfl) rfl rfl trivial (fun hHeld => ?_); refine with_tabW rookerylaw15_LexJoins.tab15 rookerylaw15_LexJoins.bits15 (fun HT_ HW_ => ?_)
                 generalize wc.drew = w64 at HO_5 HO_8 HO_11 HB hHeld ⊢
                 refine pure_ (i := 0) (N := some 108) (v := ?_) (a' := ?_) #[true, false, false, false, false, false, false, false, false, false, false, false, false, false, false, false, false, false, false, false, false, false, false, false, false, false, false, false, false, false, false, false, false, false, false, false, false, false, false] rfl rfl (any_of HT_.out (by kernel_rfl)) (fun _ _ _ h => h) (Or.inl ⟨by rfl, ?_⟩) ?_ ?_
                 rotate_left
                 · intro w'; go_simp; with_reducible rfl
                 rotate_left
                 ·
                  simp only [Act.put, q_row, q_zero, q_succ, i64_w, i32_w]
                  rfl
                 refine pure_ (i := 1) (N := some 109) (v := ?_) (a' := ?_) #[true, true, false, false, false, false, false, false, false, false, false, false, false, false, false, false, false, false, false, false, false, false, false, false, false, false, false, false, false, false, false, false, false, false, false, false, false, false, false] rfl rfl (any_of HT_.out (by kernel_rfl)) (fun _ _ _ h => h) (Or.inl ⟨by rfl, ?_⟩) ?_ ?_
                 rotate_left
                 · intro w'; go_simp; with_reducible rfl
                 rotate_left
                 ·
                  simp only [Act.put, q_row, q_zero, q_succ, i64_w, i32_w]
                  rfl
                 refine pure_ (i := 2) (N := some 110) (v := ?_) (a' := ?_) #[true, true, true, false, false, false, false, false, false, false, false, false, false, false, false, false, false, false, false, false, false, false, false, false, false, false, false, false, false, false, false, false, false, false, false, false, false, false, false] rfl rfl (any_of HT_.out (by kernel_rfl)) (fun _ _ _ h => h) (Or.inl ⟨by rfl, ?_⟩) ?_ ?_
                 rotate_left
                 · intro w'; go_simp; with_reducible rfl
                 rotate_left
                 ·
                  simp only [Act.put, q_row, q_zero, q_succ, i64_w, i32_w]
                  rfl
                 refine pure_ (i := 3) (N := some 111) (v := ?_) (a' := ?_) #[true, true, true, true, false, false, false, false, false, false, false, false, false, false, false, false, false, false, false, false, false, false, false, false, false, false, false, false, false, false, false, false, false, false, false, false, false, false, false] rfl rfl (any_of HT_.out (by kernel_rfl)) (fun _ _ _ h => h) (Or.inl ⟨by rfl, ?_⟩) ?_ ?_
                 rotate_left
                 · intro w'; go_simp; with_reducible rfl
                 rotate_left
                 ·
                  simp only [Act.put, q_row, q_zero, q_succ, i64_w, i32_w]
                  rfl
                 refine pure_ (i := 4) (N := some 112) (v := ?_) (a' := ?_) #[true, true, true, true, true, false, false, false, false, false, false, false, false, false, false, false, false, false, false, false, false, false, false, false, false, false, false, false, false, false, false, false, false, false, false, false, false, false, false] rfl rfl (any_of HT_.out (by kernel_rfl)) (fun _ _ _ h => h) (Or.inl ⟨by rfl, ?_⟩) ?_ ?_
                 rotate_left
                 · intro w'; go_simp; with_reducible rfl
                 rotate_left
                 ·
                  simp only [Act.put, q_row, q_zero, q_succ, i64_w, i32_w]
                  rfl
                 refine pure_ (i := 5) (N := some 113) (v := undef) (a' := ?_) #[true, true, true, true, true, true, false, false, false, false, false, false, false, false, false, false, false, false, false, false, false, false, false, false, false, false, false, false, false, false, false, false, false, false, false, false, false, false, false] rfl rfl (any_of HT_.out (by kernel_rfl)) (fun _ _ _ h => h) (Or.inr ⟨by rfl, rfl⟩) ?_ ?_
                 rotate_left
                 ·
                  simp only [Act.put, q_row, q_zero, q_succ, i64_w, i32_w]
                  rfl
                 refine pure_ (i := 6) (N := some 114) (v := undef) (a' := ?_) #[true, true, true, true, true, true, true, false, false, false, false, false, false, false, false, false, false, false, false, false, false, false, false, false, false, false, false, false, false, false, false, false, false, false, false, false, false, false, false] rfl rfl (any_of HT_.out (by kernel_rfl)) (fun _ _ _ h => h) (Or.inr ⟨by rfl, rfl⟩) ?_ ?_
                 rotate_left
                 ·
                  simp only [Act.put, q_row, q_zero, q_succ, i64_w, i32_w]
                  rfl
                 refine pure_ (i := 7) (N := some 115) (v := undef) (a' := ?_) #[true, true, true, true, true, true, true, true, false, false, false, false, false, false, false, false, false, false, false, false, false, false, false, false, false, false, false, false, false, false, false, false, false, false, false, false, false, false, false] rfl rfl (any_of HT_.out (by kernel_rfl)) (fun _ _ _ h => h) (Or.inr ⟨by rfl, rfl⟩) ?_ ?_
                 rotate_left
                 ·
                  simp only [Act.put, q_row, q_zero, q_succ, i64_w, i32_w]
                  rfl
                 refine pure_ (i := 8) (N := some 116) (v := undef) (a' := ?_) #[true, true, true, true, true, true, true, true, true, false, false, false, false, false, false, false, false, false, false, false, false, false, false, false, false, false, false, false, false, false, false, false, false, false, false, false, false, false, false] rfl rfl (any_of HT_.out (by kernel_rfl)) (fun _ _ _ h => h) (Or.inr ⟨by rfl, rfl⟩) ?_ ?_
                 rotate_left
                 ·
                  simp only [Act.put, q_row, q_zero, q_succ, i64_w, i32_w]
                  rfl
                 refine pure_ (i := 9) (N := some 117) (v := undef) (a' := ?_) #[true, true, true, true, true, true, true, true, true, true, false, false, false, false, false, false, false, false, false, false, false, false, false, false, false, false, false, false, false, false, false, false, false, false, false, false, false, false, false] rfl rfl (any_of HT_.out (by kernel_rfl)) (fun _ _ _ h => h) (Or.inr ⟨by rfl, rfl⟩) ?_ ?_
                 rotate_left
                 ·
                  simp only [Act.put, q_row, q_zero, q_succ, i64_w, i32_w]
                  rfl
                 refine pure_ (i := 10) (N := some 118) (v := undef) (a' := ?_) #[true, true, true, true, true, true, true, true, true, true, true, false, false, false, false, false, false, false, false, false, false, false, false, false, false, false, false, false, false, false, false, false, false, false, false, false, false, false, false] rfl rfl (any_of HT_.out (by kernel_rfl)) (fun _ _ _ h => h) (Or.inr ⟨by rfl, rfl⟩) ?_ ?_
                 rotate_left
                 ·
                  simp only [Act.put, q_row, q_zero, q_succ, i64_w, i32_w]
                  rfl
                 refine pure_ (i := 11) (N := some 119) (v := undef) (a' := ?_) #[true, true, true, true, true, true, true, true, true, true, true, true, false, false, false, false, false, false, false, false, false, false, false, false, false, false, false, false, false, false, false, false, false, false, false, false, false, false, false] rfl rfl (any_of HT_.out (by kernel_rfl)) (fun _ _ _ h => h) (Or.inr ⟨by rfl, rfl⟩) ?_ ?_
                 rotate_left
                 ·
                  simp only [Act.put, q_row, q_zero, q_succ, i64_w, i32_w]
                  rfl
                 refine pure_ (i := 12) (N := some 120) (v := undef) (a' := ?_) #[true, true, true, true, true, true, true, true, true, true, true, true, true, false, false, false, false, false, false, false, false, false, false, false, false, false, false, false, false, false, false, false, false, false, false, false, false, false, false] rfl rfl (any_of HT_.out (by kernel_rfl)) (fun _ _ _ h => h) (Or.inr ⟨by rfl, rfl⟩) ?_ ?_
                 rotate_left
                 ·
                  simp only [Act.put, q_row, q_zero, q_succ, i64_w, i32_w]
                  rfl
                 refine pure_ (i := 13) (N := some 121) (v := undef) (a' := ?_) #[true, true, true, true, true, true, true, true, true, true, true, true, true, true, false, false, false, false, false, false, false, false, false, false, false, false, false, false, false, false, false, false, false, false, false, false, false, false, false] rfl rfl (any_of HT_.out (by kernel_rfl)) (fun _ _ _ h => h) (Or.inr ⟨by rfl, rfl⟩) ?_ ?_
                 rotate_left
                 ·
                  simp only [Act.put, q_row, q_zero, q_succ, i64_w, i32_w]
                  rfl
                 refine pure_ (i := 14) (N := some 122) (v := undef) (a' := ?_) #[true, true, true, true, true, true, true, true, true, true, true, true, true, true, true, false, false, false, false, false, false, false, false, false, false, false, false, false, false, false, false, false, false, false, false, false, false, false, false] rfl rfl (any_of HT_.out (by kernel_rfl)) (fun _ _ _ h => h) (Or.inr ⟨by rfl, rfl⟩) ?_ ?_
                 rotate_left
                 ·
                  simp only [Act.put, q_row, q_zero, q_succ, i64_w, i32_w]
                  rfl
                 refine pure_ (i := 15) (N := some 123) (v := undef) (a' := ?_) #[true, true, true, true, true, true, true, true, true, true, true, true, true, true, true, true, false, false, false, false, false, false, false, false, false, false, false, false, false, false, false, false, false, false, false, false, false, false, false] rfl rfl (any_of HT_.out (by kernel_rfl)) (fun _ _ _ h => h) (Or.inr ⟨by rfl, rfl⟩) ?_ ?_
                 rotate_left
                 ·
                  simp only [Act.put, q_row, q_zero, q_succ, i64_w, i32_w]
                  rfl
                 refine pure_ (i := 16) (N := some 124) (v := undef) (a' := ?_) #[true, true, true, true, true, true, true, true, true, true, true, true, true, true, true, true, true, false, false, false, false, false, false, false, false, false, false, false, false, false, false, false, false, false, false, false, false, false, false] rfl rfl (any_of HT_.out (by kernel_rfl)) (fun _ _ _ h => h) (Or.inr ⟨by rfl, rfl⟩) ?_ ?_
                 rotate_left
                 ·
                  simp only [Act.put, q_row, q_zero, q_succ, i64_w, i32_w]
                  rfl
                 refine pure_ (i := 17) (N := some 125) (v := undef) (a' := ?_) #[true, true, true, true, true, true, true, true, true, true, true, true, true, true, true, true, true, true, false, false, false, false, false, false, false, false, false, false, false, false, false, false, false, false, false, false, false, false, false] rfl rfl (any_of HT_.out (by kernel_rfl)) (fun _ _ _ h => h) (Or.inr ⟨by rfl, rfl⟩) ?_ ?_
                 rotate_left
                 ·
                  simp only [Act.put, q_row, q_zero, q_succ, i64_w, i32_w]
                  rfl
                 refine pure_ (i := 18) (N := some 126) (v := undef) (a' := ?_) #[true, true, true, true, true, true, true, true, true, true, true, true, true, true, true, true, true, true, true, false, false, false, false, false, false, false, false, false, false, false, false, false, false, false, false, false, false, false, false] rfl rfl (any_of HT_.out (by kernel_rfl)) (fun _ _ _ h => h) (Or.inr ⟨by rfl, rfl⟩) ?_ ?_
                 rotate_left
                 ·
                  simp only [Act.put, q_row, q_zero, q_succ, i64_w, i32_w]
                  rfl
                 refine pure_ (i := 19) (N := some 127) (v := undef) (a' := ?_) #[true, true, true, true, true, true, true, true, true, true, true, true, true, true, true, true, true, true, true, true, false, false, false, false, false, false, false, false, false, false, false, false, false, false, false, false, false, false, false] rfl rfl (any_of HT_.out (by kernel_rfl)) (fun _ _ _ h => h) (Or.inr ⟨by rfl, rfl⟩) ?_ ?_
                 rotate_left
                 ·
                  simp only [Act.put, q_row, q_zero, q_succ, i64_w, i32_w]
                  rfl
                 refine pure_ (i := 20) (N := some 128) (v := undef) (a' := ?_) #[true, true, true, true, true, true, true, true, true, true, true, true, true, true, true, true, true, true, true, true, true, false, false, false, false, false, false, false, false, false, false, false, false, false, false, false, false, false, false] rfl rfl (any_of HT_.out (by kernel_rfl)) (fun _ _ _ h => h) (Or.inr ⟨by rfl, rfl⟩) ?_ ?_
                 rotate_left
                 ·
                  simp only [Act.put, q_row, q_zero, q_succ, i64_w, i32_w]
                  rfl
                 refine pure_ (i := 21) (N := some 129) (v := undef) (a' := ?_) #[true, true, true, true, true, true, true, true, true, true, true, true, true, true, true, true, true, true, true, true, true, true, false, false, false, false, false, false, false, false, false, false, false, false, false, false, false, false, false] rfl rfl (any_of HT_.out (by kernel_rfl)) (fun _ _ _ h => h) (Or.inr ⟨by rfl, rfl⟩) ?_ ?_
                 rotate_left
                 ·
                  simp only [Act.put, q_row, q_zero, q_succ, i64_w, i32_w]
                  rfl
                 refine pure_ (i := 22) (N := some 130) (v := undef) (a' := ?_) #[true, true, true, true, true, true, true, true, true, true, true, true, true, true, true, true, true, true, true, true, true, true, true, false, false, false, false, false, false, false, false, false, false, false, false, false, false, false, false] rfl rfl (any_of HT_.out (by kernel_rfl)) (fun _ _ _ h => h) (Or.inr ⟨by rfl, rfl⟩) ?_ ?_
                 rotate_left
                 ·
                  simp only [Act.put, q_row, q_zero, q_succ, i64_w, i32_w]
                  rfl
                 refine pure_ (i := 23) (N := some 131) (v := undef) (a' := ?_) #[true, true, true, true, true, true, true, true, true, true, true, true, true, true, true, true, true, true, true, true, true, true, true, true, false, false, false, false, false, false, false, false, false, false, false, false, false, false, false] rfl rfl (any_of HT_.out (by kernel_rfl)) (fun _ _ _ h => h) (Or.inr ⟨by rfl, rfl⟩) ?_ ?_
                 rotate_left
                 ·
                  simp only [Act.put, q_row, q_zero, q_succ, i64_w, i32_w]
                  rfl
                 refine pure_ (i := 24) (N := some 132) (v := undef) (a' := ?_) #[true, true, true, true, true, true, true, true, true, true, true, true, true, true, true, true, true, true, true, true, true, true, true, true, true, false, false, false, false, false, false, false, false, false, false, false, false, false, false] rfl rfl (any_of HT_.out (by kernel_rfl)) (fun _ _ _ h => h) (Or.inr ⟨by rfl, rfl⟩) ?_ ?_
                 rotate_left
                 ·
                  simp only [Act.put, q_row, q_zero, q_succ, i64_w, i32_w]
                  rfl
                 refine pure_ (i := 25) (N := some 133) (v := undef) (a' := ?_) #[true, true, true, true, true, true, true, true, true, true, true, true, true, true, true, true, true, true, true, true, true, true, true, true, true, true, false, false, false, false, false, false, false, false, false, false, false, false, false] rfl rfl (any_of HT_.out (by kernel_rfl)) (fun _ _ _ h => h) (Or.inr ⟨by rfl, rfl⟩) ?_ ?_
                 rotate_left
                 ·
                  simp only [Act.put, q_row, q_zero, q_succ, i64_w, i32_w]
                  rfl
                 refine pure_ (i := 26) (N := some 134) (v := undef) (a' := ?_) #[true, true, true, true, true, true, true, true, true, true, true, true, true, true, true, true, true, true, true, true, true, true, true, true, true, true, true, false, false, false, false, false, false, false, false, false, false, false, false] rfl rfl (any_of HT_.out (by kernel_rfl)) (fun _ _ _ h => h) (Or.inr ⟨by rfl, rfl⟩) ?_ ?_
                 rotate_left
                 ·
                  simp only [Act.put, q_row, q_zero, q_succ, i64_w, i32_w]
                  rfl
                 refine pure_ (i := 27) (N := some 135) (v := undef) (a' := ?_) #[true, true, true, true, true, true, true, true, true, true, true, true, true, true, true, true, true, true, true, true, true, true, true, true, true, true, true, true, false, false, false, false, false, false, false, false, false, false, false] rfl rfl (any_of HT_.out (by kernel_rfl)) (fun _ _ _ h => h) (Or.inr ⟨by rfl, rfl⟩) ?_ ?_
                 rotate_left
                 ·
                  simp only [Act.put, q_row, q_zero, q_succ, i64_w, i32_w]
                  rfl
                 refine pure_ (i := 28) (N := some 136) (v := undef) (a' := ?_) #[true, true, true, true, true, true, true, true, true, true, true, true, true, true, true, true, true, true, true, true, true, true, true, true, true, true, true, true, true, false, false, false, false, false, false, false, false, false, false] rfl rfl (any_of HT_.out (by kernel_rfl)) (fun _ _ _ h => h) (Or.inr ⟨by rfl, rfl⟩) ?_ ?_
                 rotate_left
                 ·
                  simp only [Act.put, q_row, q_zero, q_succ, i64_w, i32_w]
                  rfl
                 refine pure_ (i := 29) (N := some 137) (v := undef) (a' := ?_) #[true, true, true, true, true, true, true, true, true, true, true, true, true, true, true, true, true, true, true, true, true, true, true, true, true, true, true, true, true, true, false, false, false, false, false, false, false, false, false] rfl rfl (any_of HT_.out (by kernel_rfl)) (fun _ _ _ h => h) (Or.inr ⟨by rfl, rfl⟩) ?_ ?_
                 rotate_left
                 ·
                  simp only [Act.put, q_row, q_zero, q_succ, i64_w, i32_w]
                  rfl
                 refine pure_ (i := 30) (N := some 138) (v := undef) (a' := ?_) #[true, true, true, true, true, true, true, true, true, true, true, true, true, true, true, true, true, true, true, true, true, true, true, true, true, true, true, true, true, true, true, false, false, false, false, false, false, false, false] rfl rfl (any_of HT_.out (by kernel_rfl)) (fun _ _ _ h => h) (Or.inr ⟨by rfl, rfl⟩) ?_ ?_
                 rotate_left
                 ·
                  simp only [Act.put, q_row, q_zero, q_succ, i64_w, i32_w]
                  rfl
                 refine pure_ (i := 31) (N := some 139) (v := undef) (a' := ?_) #[true, true, true, true, true, true, true, true, true, true, true, true, true, true, true, true, true, true, true, true, true, true, true, true, true, true, true, true, true, true, true, true, false, false, false, false, false, false, false] rfl rfl (any_of HT_.out (by kernel_rfl)) (fun _ _ _ h => h) (Or.inr ⟨by rfl, rfl⟩) ?_ ?_
                 rotate_left
                 ·
                  simp only [Act.put, q_row, q_zero, q_succ, i64_w, i32_w]
                  rfl
                 refine pure_ (i := 32) (N := some 140) (v := undef) (a' := ?_) #[true, true, true, true, true, true, true, true, true, true, true, true, true, true, true, true, true, true, true, true, true, true, true, true, true, true, true, true, true, true, true, true, true, false, false, false, false, false, false] rfl rfl (any_of HT_.out (by kernel_rfl)) (fun _ _ _ h => h) (Or.inr ⟨by rfl, rfl⟩) ?_ ?_
                 rotate_left
                 ·
                  simp only [Act.put, q_row, q_zero, q_succ, i64_w, i32_w]
                  rfl
                 refine pure_ (i := 33) (N := some 141) (v := undef) (a' := ?_) #[true, true, true, true, true, true, true, true, true, true, true, true, true, true, true, true, true, true, true, true, true, true, true, true, true, true, true, true, true, true, true, true, true, true, false, false, false, false, false] rfl rfl (any_of HT_.out (by kernel_rfl)) (fun _ _ _ h => h) (Or.inr ⟨by rfl, rfl⟩) ?_ ?_
                 rotate_left
                 ·
                  simp only [Act.put, q_row, q_zero, q_succ, i64_w, i32_w]
                  rfl
                 refine pure_ (i := 34) (N := some 142) (v := undef) (a' := ?_) #[true, true, true, true, true, true, true, true, true, true, true, true, true, true, true, true, true, true, true, true, true, true, true, true, true, true, true, true, true, true, true, true, true, true, true, false, false, false, false] rfl rfl (any_of HT_.out (by kernel_rfl)) (fun _ _ _ h => h) (Or.inr ⟨by rfl, rfl⟩) ?_ ?_
                 rotate_left
                 ·
                  simp only [Act.put, q_row, q_zero, q_succ, i64_w, i32_w]
                  rfl
                 refine pure_ (i := 35) (N := some 143) (v := undef) (a' := ?_) #[true, true, true, true, true, true, true, true, true, true, true, true, true, true, true, true, true, true, true, true, true, true, true, true, true, true, true, true, true, true, true, true, true, true, true, true, false, false, false] rfl rfl (any_of HT_.out (by kernel_rfl)) (fun _ _ _ h => h) (Or.inr ⟨by rfl, rfl⟩) ?_ ?_
                 rotate_left
                 ·
                  simp only [Act.put, q_row, q_zero, q_succ, i64_w, i32_w]
                  rfl
                 refine pure_ (i := 36) (N := some 144) (v := undef) (a' := ?_) #[true, true, true, true, true, true, true, true, true, true, true, true, true, true, true, true, true, true, true, true, true, true, true, true, true, true, true, true, true, true, true, true, true, true, true, true, true, false, false] rfl rfl (any_of HT_.out (by kernel_rfl)) (fun _ _ _ h => h) (Or.inr ⟨by rfl, rfl⟩) ?_ ?_
                 rotate_left
                 ·
                  simp only [Act.put, q_row, q_zero, q_succ, i64_w, i32_w]
                  rfl
                 refine pure_ (i := 37) (N := some 145) (v := undef) (a' := ?_) #[true, true, true, true, true, true, true, true, true, true, true, true, true, true, true, true, true, true, true, true, true, true, true, true, true, true, true, true, true, true, true, true, true, true, true, true, true, true, false] rfl rfl (any_of HT_.out (by kernel_rfl)) (fun _ _ _ h => h) (Or.inr ⟨by rfl, rfl⟩) ?_ ?_
                 rotate_left
                 ·
                  simp only [Act.put, q_row, q_zero, q_succ, i64_w, i32_w]
                  rfl
                 refine pure_ (i := 38) (N := some 146) (v := ?_) (a' := ?_) #[true, true, true, true, true, true, true, true, true, true, true, true, true, true, true, true, true, true, true, true, true, true, true, true, true, true, true, true, true, true, true, true, true, true, true, true, true, true, true] rfl rfl (any_of HT_.out (by kernel_rfl)) (fun _ _ _ h => h) (Or.inl ⟨by rfl, ?_⟩) ?_ ?_
                 rotate_left
                 · intro w'; go_simp; with_reducible rfl
                 rotate_left
                 ·
                  simp only [Act.put, q_row, q_zero, q_succ, i64_w, i32_w]
                  rfl
                 refine done_ (done_of HT_.out (by kernel_rfl)) ?_
                 try go_wp2
                 go_roundg kj27
                 case measure => have := HJ6.out; have := HJ19.out; have := HK3.out; have := HJ27.out; omega
                 case rel => exact ⟨(wrap64 (x14_3 + 1)), (by first | rfl | (simp; done) | (simp [*]; done)), H', ⟨by have := HJ6.out; have := HJ19.out; have := HK3.out; have := HJ27.out; omega⟩, ⟨by (with_reducible repeat (first | apply Kd.S_alloc | apply Kd.S_drewN | apply Kd.S_drew)); exact HO_5.out⟩, ⟨by (with_reducible repeat (first | apply Kd.S_alloc | apply Kd.S_drewN | apply Kd.S_drew)); exact HO_8.out⟩, ⟨by (with_reducible repeat (first | apply Kd.S_alloc | apply Kd.S_drewN | apply Kd.S_drew)); exact HO_11.out⟩, ⟨by repeat (first | (with_reducible first | exact HB.out | apply below_alloc | apply pw_below_drewN | apply below_drew1) | exact HB.out)⟩⟩
            ·
             rw [if_neg c27] at H
             have c27b0 : decide (x14_3 < (t173.length : Int)) = false := decide_eq_false c27
             clear c27
             obtain rfl := Option.some.inj H
             obtain ⟨Ao66, co66, eo66⟩ := Kd.S_slice HO_11.out
             subst eo66
             go_wp2
             go_ret
             exact ⟨by first | rfl | (simp [errW_none, errW_some] <;> rfl) | (simp [*, errW_none, errW_some] <;> rfl), by repeat (first | (with_reducible first | exact HB.out | apply below_alloc | apply pw_below_drewN | apply below_drew1) | exact HB.out)⟩
      ·
       rw [if_neg c18] at H
       exact absurd H (by simp)
     ·
      rw [if_neg c17] at H
      exact absurd H (by simp)
 ·
  replace c4 := Bool.eq_false_iff.mpr c4
  subst c4
  have H1 : (some false) = some r := by rw [if_neg (show ¬ (false = true) by decide)] at H; exact H
  clear H
  have H := H1
  clear H1
  obtain rfl := Option.some.inj H
  go_enter Tryd.func7, Tryd.ntmps7
  go_wp2_with (first | ((with_reducible refine gate_callee (f := 13) rfl ?_); refine goesL_ (some 15) rfl rfl Tryd.func13 (by kernel_rfl) rfl #[] rfl (by (try simp only [List.map_toArray, List.map_cons, List.map_nil]); first | done | rfl | (simp only [List.length_drop, List.length_take]; rfl)) ?_; (with_reducible refine (rookerylaw15_alive.calls k  false _ ?side1 A3.out).mono ?_); (case side1 => first | exact hG | exact hG.drewN _ | exact hG.drew | exact hG.below (by repeat (first | (with_reducible first | exact HB.out | apply below_alloc | apply pw_below_drewN | apply below_drew1) | exact HB.out)) | (refine hG.below ?_; (repeat (first | (with_reducible exact Below.refl _ _) | (with_reducible refine pw_below_drewN ?_ _) | (with_reducible refine below_drew ?_) | (with_reducible refine below_alloc ?_ _))))); rintro e w67 ⟨rfl, hb⟩; refine ⟨_, rfl, ?_⟩; have n0_ := Aside0.mk (below_step (by repeat (first | (with_reducible first | exact HB.out | apply below_alloc | apply pw_below_drewN | apply below_drew1) | exact HB.out)) hb); clear HB; have HB := n0_; clear n0_; (try clear hb); (try clear hb2); (try clear hk); (try clear hi)))
  go_ret
  exact ⟨by first | rfl | (simp [errW_none, errW_some] <;> rfl) | (simp [*, errW_none, errW_some] <;> rfl), by repeat (first | (with_reducible first | exact HB.out | apply below_alloc | apply pw_below_drewN | apply below_drew1) | exact HB.out)⟩

/-- THE ONE PURE STATEMENT of rookerylaw15_LexJoins: yours. -/
def rookerylaw15_LexJoins.Pure : Prop := ∀ (a0 : ByteArray) (a1 : ByteArray), a0.size ≤ 140737488351232 → a1.size ≤ 140737488351232 → ∃ k, rookerylaw15_LexJoins.f k a0 a1 = some true
theorem rookerylaw15_LexJoins.walk (P : rookerylaw15_LexJoins.Pure) (a0 : ByteArray) (a1 : ByteArray) (w : World) (w0 : a0.size ≤ 140737488351232) (w1 : a1.size ≤ 140737488351232) (hG : Glob w) :
  Calls Tryd.prog 7 #[.string a0, .string a1] w fun e w' => e = .returned (.bool true) ∧ Below w.heap.size w w' := by
 obtain ⟨k, h⟩ := P a0 a1 w0 w1
 refine (rookerylaw15_LexJoins.calls k a0 a1 true w hG h).mono ?_
 rintro e w' ⟨rfl, hd⟩
 exact ⟨rfl, hd⟩

end Go.Proofs.YtgkbmdlelcbmhaaDoor.PLex
