-- Written by a turned copy of the kit's printer (wip/patch_print.py), in this project; not trusted: Lean checks it.
import Derived.Test.YtejidddjkngoiaaDoorPGramx0
import Derived.Test.YtejidddjkngoiaaDoorPGramx2
import Derived.Test.YtejidddjkngoiaaDoorPGramx5
namespace Go.Proofs.YtejidddjkngoiaaDoor.PGram
open Go.RowKit Go.Proofs.YtejidddjkngoiaaDoorW.PrintWords Go.Proofs.YtejidddjkngoiaaDoorW.PrintLast Go.Proofs.YtejidddjkngoiaaDoorW.PrintMore
attribute [local go_sem] max2_int min2_int max_two min_two max_three min_three max_four min_four   -- for this text's walks alone
set_option linter.unusedVariables false
set_option linter.unusedSimpArgs false

/-! ### rookerylaw16_GramFuns: function 4 -/
def rookerylaw16_GramFuns.j0 : Nat → ByteArray → ByteArray → Bool → Int → ByteArray → Int → List Int → List (S28) → Int → ByteArray → Int → List Int → List (S28) → Option (Bool)
 | 0, _, _, _, _, _, _, _, _, _, _, _, _, _ => none
 | k + 1, x0, x1, x42, x250000, x250001, x250002, x250003, x250004, x262000, x262001, x262002, x262003, x262004 => if x42 = true then (some true) else (if x0.size + 1 ≤ 9223372036854775807 then (if (x0 ++ (⟨#[10]⟩ : ByteArray)).size + x1.size ≤ 9223372036854775807 then ((rookerylaw16_parse.f k ((x0 ++ (⟨#[10]⟩ : ByteArray)) ++ x1)).bind fun bt262 => (if bt262.2.2.2.2.2.2 = 155 then (some true) else ((some (([] : List (S28)) : List (S28))).bind fun y274 => (if y274.length + x250004.length < 1759218604441 then ((some (y274 ++ x250004 : List (S28))).bind fun y277 => (if y277.length + x262004.length < 1759218604441 then (if bt262.2.2.2.2.2.2 = 0 then ((rookeryref16_Same.f k bt262.1 bt262.2.1 bt262.2.2.1 bt262.2.2.2.1 bt262.2.2.2.2.1 18 (⟨#[]⟩ : ByteArray) 0 ([] : List Int) (y277 ++ x262004)).bind fun t284 => (some t284)) else (some false)) else (none))) else (none))))) else (none)) else (none))
def rookerylaw16_GramFuns.f (k : Nat) (a0 : ByteArray) (a1 : ByteArray) : Option (Bool) := (rookerylaw16_alive.f).bind fun t237 => (if t237 = true then ((rookerylaw16_parse.f k a0).bind fun bt238 => ((rookerylaw16_parse.f k a1).bind fun bt250 => (if bt238.2.2.2.2.2.2 = 0 then (if bt250.2.2.2.2.2.2 = 0 then (rookerylaw16_GramFuns.j0 k a0 a1 (decide ((wrap64 ((a0.size : Int) + (a1.size : Int))) ≥ 16384)) bt238.1 bt238.2.1 bt238.2.2.1 bt238.2.2.2.1 bt238.2.2.2.2.1 bt250.1 bt250.2.1 bt250.2.2.1 bt250.2.2.2.1 bt250.2.2.2.2.1) else (rookerylaw16_GramFuns.j0 k a0 a1 true bt238.1 bt238.2.1 bt238.2.2.1 bt238.2.2.2.1 bt238.2.2.2.2.1 bt250.1 bt250.2.1 bt250.2.2.1 bt250.2.2.2.1 bt250.2.2.2.2.1)) else (rookerylaw16_GramFuns.j0 k a0 a1 true bt238.1 bt238.2.1 bt238.2.2.1 bt238.2.2.2.1 bt238.2.2.2.2.1 bt250.1 bt250.2.1 bt250.2.2.1 bt250.2.2.2.1 bt250.2.2.2.2.1)))) else (some false))
theorem rookerylaw16_GramFuns.mono_l : ∀ k, (∀ y0 y1 y2 y3 y4 y5 y6 y7 y8 y9 y10 y11 y12, LeO (rookerylaw16_GramFuns.j0 k y0 y1 y2 y3 y4 y5 y6 y7 y8 y9 y10 y11 y12) (rookerylaw16_GramFuns.j0 (k + 1) y0 y1 y2 y3 y4 y5 y6 y7 y8 y9 y10 y11 y12))
 | 0 => fun _ _ _ _ _ _ _ _ _ _ _ _ _ r h => by simp [rookerylaw16_GramFuns.j0] at h
 | k + 1 => by
  have ih0 := rookerylaw16_GramFuns.mono_l k
  ·
   intro y0 y1 y2 y3 y4 y5 y6 y7 y8 y9 y10 y11 y12
   unfold rookerylaw16_GramFuns.j0
   repeat' first
   | (with_reducible exact ih0 _ _ _ _ _ _ _ _ _ _ _ _ _)
   | (with_reducible exact rookerylaw16_parse.mono _ _)
   | (with_reducible exact rookeryref16_Same.mono _ _ _ _ _ _ _ _ _ _ _)
   | (with_reducible exact LeO.refl _)
   | (with_reducible exact LeO.none _)
   | (with_reducible refine LeO.ite ?_ ?_)
   | (with_reducible refine LeO.bind ?_ (fun _ => ?_))
   | exact ih0 _ _ _ _ _ _ _ _ _ _ _ _ _
   | exact rookerylaw16_parse.mono _ _
   | exact rookeryref16_Same.mono _ _ _ _ _ _ _ _ _ _ _
   | exact LeO.none _
   | refine LeO.ite ?_ ?_
   | refine LeO.bind ?_ (fun _ => ?_)
theorem rookerylaw16_GramFuns.mono : ∀ a0 a1 k, LeO (rookerylaw16_GramFuns.f k a0 a1) (rookerylaw16_GramFuns.f (k + 1) a0 a1) := by
 intro a0 a1 k
 have ih0 := rookerylaw16_GramFuns.mono_l k
 unfold rookerylaw16_GramFuns.f
 repeat' first
   | (with_reducible exact ih0 _ _ _ _ _ _ _ _ _ _ _ _ _)
   | (with_reducible exact rookerylaw16_parse.mono _ _)
   | (with_reducible exact rookeryref16_Same.mono _ _ _ _ _ _ _ _ _ _ _)
   | (with_reducible exact LeO.refl _)
   | (with_reducible exact LeO.none _)
   | (with_reducible refine LeO.ite ?_ ?_)
   | (with_reducible refine LeO.bind ?_ (fun _ => ?_))
   | exact ih0 _ _ _ _ _ _ _ _ _ _ _ _ _
   | exact rookerylaw16_parse.mono _ _
   | exact rookeryref16_Same.mono _ _ _ _ _ _ _ _ _ _ _
   | exact LeO.none _
   | refine LeO.ite ?_ ?_
   | refine LeO.bind ?_ (fun _ => ?_)
def rookerylaw16_GramFuns.T10 : Bool × List (List Nat × List Nat) := (true, [([], []), ([], []), ([1], [1]), ([0, 2], [0, 2]), ([], []), ([4], [4]), ([3, 5, 3], [3, 5]), ([6], [6]), ([], []), ([8, 7, 6, 0, 1, 2, 3, 4, 5, 6, 7, 8], [7, 8])])
def rookerylaw16_GramFuns.B10 : List Nat := [0, 0, 2, 7, 0, 16, 63, 127, 0, 511]
theorem rookerylaw16_GramFuns.tab10 : rtab .any (opsOf Tryd.f4 10) = rookerylaw16_GramFuns.T10 := by kernel_rfl
theorem rookerylaw16_GramFuns.bits10 : waitsOk rookerylaw16_GramFuns.T10.2 rookerylaw16_GramFuns.B10 = true := by kernel_rfl
set_option maxHeartbeats 8000000 in
set_option maxRecDepth 100000 in
theorem rookerylaw16_GramFuns.calls (k : Nat) (a0 : ByteArray) (a1 : ByteArray) (r : Bool) (w : World) (hG : Glob w) (h : rookerylaw16_GramFuns.f k a0 a1 = some r) :
  Calls Tryd.prog 4 #[.string a0, .string a1] w fun e w' => e = .returned (.bool r) ∧ Below w.heap.size w w' := by
 have hu28 := Tryd.underlying28
 have HB := qM (Below.refl w.heap.size w)
 have H : ((rookerylaw16_alive.f).bind fun t237 => (if t237 = true then ((rookerylaw16_parse.f k a0).bind fun bt238 => ((rookerylaw16_parse.f k a1).bind fun bt250 => (if bt238.2.2.2.2.2.2 = 0 then (if bt250.2.2.2.2.2.2 = 0 then (rookerylaw16_GramFuns.j0 k a0 a1 (decide ((wrap64 ((a0.size : Int) + (a1.size : Int))) ≥ 16384)) bt238.1 bt238.2.1 bt238.2.2.1 bt238.2.2.2.1 bt238.2.2.2.2.1 bt250.1 bt250.2.1 bt250.2.2.1 bt250.2.2.2.1 bt250.2.2.2.2.1) else (rookerylaw16_GramFuns.j0 k a0 a1 true bt238.1 bt238.2.1 bt238.2.2.1 bt238.2.2.2.1 bt238.2.2.2.2.1 bt250.1 bt250.2.1 bt250.2.2.1 bt250.2.2.2.1 bt250.2.2.2.2.1)) else (rookerylaw16_GramFuns.j0 k a0 a1 true bt238.1 bt238.2.1 bt238.2.2.1 bt238.2.2.2.1 bt238.2.2.2.2.1 bt250.1 bt250.2.1 bt250.2.2.1 bt250.2.2.2.1 bt250.2.2.2.2.1)))) else (some false))) = some r := h
 clear h
 replace H := Option.bind_eq_some_iff.mp H
 obtain ⟨t237, A30, H⟩ := H
 replace H : (if t237 = true then ((rookerylaw16_parse.f k a0).bind fun bt238 => ((rookerylaw16_parse.f k a1).bind fun bt250 => (if bt238.2.2.2.2.2.2 = 0 then (if bt250.2.2.2.2.2.2 = 0 then (rookerylaw16_GramFuns.j0 k a0 a1 (decide ((wrap64 ((a0.size : Int) + (a1.size : Int))) ≥ 16384)) bt238.1 bt238.2.1 bt238.2.2.1 bt238.2.2.2.1 bt238.2.2.2.2.1 bt250.1 bt250.2.1 bt250.2.2.1 bt250.2.2.2.1 bt250.2.2.2.2.1) else (rookerylaw16_GramFuns.j0 k a0 a1 true bt238.1 bt238.2.1 bt238.2.2.1 bt238.2.2.2.1 bt238.2.2.2.2.1 bt250.1 bt250.2.1 bt250.2.2.1 bt250.2.2.2.1 bt250.2.2.2.2.1)) else (rookerylaw16_GramFuns.j0 k a0 a1 true bt238.1 bt238.2.1 bt238.2.2.1 bt238.2.2.2.1 bt238.2.2.2.2.1 bt250.1 bt250.2.1 bt250.2.2.1 bt250.2.2.2.1 bt250.2.2.2.2.1)))) else (some false)) = some r := H
 have A3 := qM A30
 clear A30
 by_cases c4 : t237 = true
 ·
  subst c4
  have H1 : ((rookerylaw16_parse.f k a0).bind fun bt238 => ((rookerylaw16_parse.f k a1).bind fun bt250 => (if bt238.2.2.2.2.2.2 = 0 then (if bt250.2.2.2.2.2.2 = 0 then (rookerylaw16_GramFuns.j0 k a0 a1 (decide ((wrap64 ((a0.size : Int) + (a1.size : Int))) ≥ 16384)) bt238.1 bt238.2.1 bt238.2.2.1 bt238.2.2.2.1 bt238.2.2.2.2.1 bt250.1 bt250.2.1 bt250.2.2.1 bt250.2.2.2.1 bt250.2.2.2.2.1) else (rookerylaw16_GramFuns.j0 k a0 a1 true bt238.1 bt238.2.1 bt238.2.2.1 bt238.2.2.2.1 bt238.2.2.2.2.1 bt250.1 bt250.2.1 bt250.2.2.1 bt250.2.2.2.1 bt250.2.2.2.2.1)) else (rookerylaw16_GramFuns.j0 k a0 a1 true bt238.1 bt238.2.1 bt238.2.2.1 bt238.2.2.2.1 bt238.2.2.2.2.1 bt250.1 bt250.2.1 bt250.2.2.1 bt250.2.2.2.1 bt250.2.2.2.2.1)))) = some r := by rw [if_pos rfl] at H; exact H
  clear H
  have H := H1
  clear H1
  replace H := Option.bind_eq_some_iff.mp H
  obtain ⟨⟨t238, t239, t240, t241, t244, t247, t248⟩, A50, H⟩ := H
  replace H : ((rookerylaw16_parse.f k a1).bind fun bt250 => (if t248 = 0 then (if bt250.2.2.2.2.2.2 = 0 then (rookerylaw16_GramFuns.j0 k a0 a1 (decide ((wrap64 ((a0.size : Int) + (a1.size : Int))) ≥ 16384)) t238 t239 t240 t241 t244 bt250.1 bt250.2.1 bt250.2.2.1 bt250.2.2.2.1 bt250.2.2.2.2.1) else (rookerylaw16_GramFuns.j0 k a0 a1 true t238 t239 t240 t241 t244 bt250.1 bt250.2.1 bt250.2.2.1 bt250.2.2.2.1 bt250.2.2.2.2.1)) else (rookerylaw16_GramFuns.j0 k a0 a1 true t238 t239 t240 t241 t244 bt250.1 bt250.2.1 bt250.2.2.1 bt250.2.2.2.1 bt250.2.2.2.2.1))) = some r := H
  have A5 := qM A50
  clear A50
  replace H := Option.bind_eq_some_iff.mp H
  obtain ⟨⟨t250, t251, t252, t253, t256, t259, t260⟩, A60, H⟩ := H
  replace H : (if t248 = 0 then (if t260 = 0 then (rookerylaw16_GramFuns.j0 k a0 a1 (decide ((wrap64 ((a0.size : Int) + (a1.size : Int))) ≥ 16384)) t238 t239 t240 t241 t244 t250 t251 t252 t253 t256) else (rookerylaw16_GramFuns.j0 k a0 a1 true t238 t239 t240 t241 t244 t250 t251 t252 t253 t256)) else (rookerylaw16_GramFuns.j0 k a0 a1 true t238 t239 t240 t241 t244 t250 t251 t252 t253 t256)) = some r := H
  have A6 := qM A60
  clear A60
  have HC7 := qM H
  clear H
  go_enter Tryd.func4, Tryd.ntmps4
  go_upto_region 5 with (first | ((with_reducible refine gate_callee (f := 7) rfl ?_); refine goesL_ (some 15) rfl rfl Tryd.func7 (by kernel_rfl) rfl #[] rfl (by (try simp only [List.map_toArray, List.map_cons, List.map_nil]); first | done | rfl | (simp only [List.length_drop, List.length_take]; rfl)) ?_; (with_reducible refine (rookerylaw16_alive.calls  true _ ?side1 A3.out).mono ?_); (case side1 => first | exact hG | exact hG.drewN _ | exact hG.drew | exact hG.below (qB HB.out) | (refine hG.below ?_; (repeat (first | (with_reducible exact Below.refl _ _) | (with_reducible refine pw_below_drewN ?_ _) | (with_reducible refine below_drew ?_) | (with_reducible refine below_alloc ?_ _))))); rintro e w8 ⟨rfl, hb⟩; refine ⟨_, rfl, ?_⟩; have n0_ := qM (below_step (qB HB.out) hb); clear HB; have HB := n0_; clear n0_; (try clear hb); (try clear hb2); (try clear hk); (try clear hi)) | ((with_reducible refine gate_callee (f := 8) rfl ?_); refine goesL_ (some 19) rfl rfl Tryd.func8 (by kernel_rfl) rfl #[.string a0] rfl (by (try simp only [List.map_toArray, List.map_cons, List.map_nil]); first | done | rfl | (simp only [List.length_drop, List.length_take]; rfl)) ?_; (with_reducible refine (rookerylaw16_parse.calls k a0 t238 t239 t240 t241 t244 t247 t248 _ ?side1 A5.out).mono ?_); (case side1 => first | exact hG | exact hG.drewN _ | exact hG.drew | exact hG.below (qB HB.out) | (refine hG.below ?_; (repeat (first | (with_reducible exact Below.refl _ _) | (with_reducible refine pw_below_drewN ?_ _) | (with_reducible refine below_drew ?_) | (with_reducible refine below_alloc ?_ _))))); rintro e w9 ⟨v242, v245, rfl, ho0, ho1, hb⟩; refine ⟨_, rfl, ?_⟩; have n0_ := qM (Kd.R_lower ho0 (below_size (qB HB.out))); have n1_ := qM (Kd.N_lower (Kd.N_mono (ok' := fun k_ => some k_ ≠ (v242 : Value).ownBlock) (Kd.R_N (Kd.R_bound ho1)) (fun k_ hk_ => hk_.1)) (below_size (qB HB.out))); have n2_ := qM (below_step (qB HB.out) hb); clear HB; have HO243 := n0_; have HO246 := n1_; have HB := n2_; clear n0_ n1_ n2_; (try clear hb); (try clear hb2); (try clear hk); (try clear hi); (try clear ho0); (try clear ho1)) | ((with_reducible refine gate_dst (N := 5) rfl ?_); (try (refine gate_guard (by rfl) ?_; dsimp only)); refine box_event ?hg (N := 5) ?hd (cs := #[.int .i64 0, .string (⟨#[]⟩ : ByteArray), .int .i64 0, .slice none 0 0, .slice none 0 0]) (t := 28) ?hr ?_; (case hd => rfl); (case hg => rfl); (case hr => first | (go_simp; done) | (go_simp; rfl)); intro gb249 hg w10 hbox hb; have n0_ := qM (Kd.R_below (qR HO243.out) hb); have n1_ := qM (Kd.N_below (Kd.N_elderB (qN HO246.out) gb249 (Nat.le_of_eq hg.symm)) hb); have n2_ := qM (below_step (qB HB.out) hb); have n3_ := qM (hbox); have n4_ := qM ((by rw [hg]; exact (below_size (qB HB.out)) : w.heap.size ≤ gb249)); have n5_ := qM ((by rw [hg]; exact (below_size (qB HB.out)) : w.heap.size ≤ gb249)); clear HO243; clear HO246; clear HB; have HO243 := n0_; have HO246 := n1_; have HB := n2_; have BK249 := n3_; have GW249 := n4_; have GE249 := n5_; clear n0_ n1_ n2_ n3_ n4_ n5_; clear hb hbox hg; have hcz11_0 : w10.cell? ⟨gb249, 0, none⟩ = some (.int .i64 0) := (blk_cell BK249.out 0).trans rfl; have hcz11_1 : w10.cell? ⟨gb249, 1, none⟩ = some (.string (⟨#[]⟩ : ByteArray)) := (blk_cell BK249.out 1).trans rfl; have hcz11_2 : w10.cell? ⟨gb249, 2, none⟩ = some (.int .i64 0) := (blk_cell BK249.out 2).trans rfl; have hcz11_3 : w10.cell? ⟨gb249, 3, none⟩ = some (.slice none 0 0) := (blk_cell BK249.out 3).trans rfl; have hcz11_4 : w10.cell? ⟨gb249, 4, none⟩ = some (.slice none 0 0) := (blk_cell BK249.out 4).trans rfl; have hfz11_0 := blk_frozen BK249.out 0; have hfz11_1 := blk_frozen BK249.out 1; have hfz11_2 := blk_frozen BK249.out 2; have hfz11_3 := blk_frozen BK249.out 3; have hfz11_4 := blk_frozen BK249.out 4; obtain ⟨Ao12, co12, eo12⟩ := Kd.R_slice HO243.out; subst eo12; obtain ⟨Ao13, co13, eo13⟩ := Kd.N_slice HO246.out; subst eo13) | ((with_reducible refine gate_callee (f := 8) rfl ?_); refine goesL_ (some 25) rfl rfl Tryd.func8 (by kernel_rfl) rfl #[.string a1] rfl (by (try simp only [List.map_toArray, List.map_cons, List.map_nil]); first | done | rfl | (simp only [List.length_drop, List.length_take]; rfl)) ?_; (with_reducible refine (rookerylaw16_parse.calls k a1 t250 t251 t252 t253 t256 t259 t260 _ ?side1 A6.out).mono ?_); (case side1 => first | exact hG | exact hG.drewN _ | exact hG.drew | exact hG.below (by repeat (first | (with_reducible first | exact HB.out | apply below_alloc | apply pw_below_drewN | apply below_drew1 | refine below_set ?_ GE249.out) | exact HB.out)) | (refine hG.below ?_; (repeat (first | (with_reducible exact Below.refl _ _) | (with_reducible refine pw_below_drewN ?_ _) | (with_reducible refine below_drew ?_) | (with_reducible refine below_alloc ?_ _))))); rintro e w14 ⟨v254, v257, rfl, ho0, ho1, hb⟩; refine ⟨_, rfl, ?_⟩; have n0_ := qM (Kd.R_elder' (by (with_reducible repeat (first | apply Kd.R_alloc | apply Kd.R_drewN | apply Kd.R_drew)); exact (Kd.R_mono (Kd.R_far (p := ⟨gb249, 4, none⟩) (Kd.R_far (p := ⟨gb249, 3, none⟩) (Kd.R_far (p := ⟨gb249, 2, none⟩) (Kd.R_far (p := ⟨gb249, 1, none⟩) (Kd.R_far (p := ⟨gb249, 0, none⟩) (Kd.R_types HO243.out BK249.out (by decide)) (fun _ hk => hk.2) (.int .i64 t238)) (fun _ hk => hk.2) (.string t239)) (fun _ hk => hk.2) (.int .i64 t240)) (fun _ hk => hk.2) (.slice Ao12 t241.length co12)) (fun _ hk => hk.2) (.slice Ao13 t244.length co13)) (fun _ h_ => h_.1))) (Kd.R_base ho0) hb); have n1_ := qM (Kd.N_mono (Kd.N_told (Kd.N_told (Kd.N_old (by (with_reducible repeat (first | apply Kd.N_alloc | apply Kd.N_drewN | apply Kd.N_drew)); exact (Kd.N_mono (Kd.N_far (p := ⟨gb249, 4, none⟩) (Kd.N_far (p := ⟨gb249, 3, none⟩) (Kd.N_far (p := ⟨gb249, 2, none⟩) (Kd.N_far (p := ⟨gb249, 1, none⟩) (Kd.N_far (p := ⟨gb249, 0, none⟩) (Kd.N_mono HO246.out (fun k_ hk => (⟨hk, hk.2⟩ : _ ∧ k_ ≠ gb249))) (fun _ hk => hk.2) (.int .i64 t238)) (fun _ hk => hk.2) (.string t239)) (fun _ hk => hk.2) (.int .i64 t240)) (fun _ hk => hk.2) (.slice Ao12 t241.length co12)) (fun _ hk => hk.2) (.slice Ao13 t244.length co13)) (fun _ h_ => h_.1))) hb) (Kd.R_base ho0)) (Kd.R_base ho1)) (fun _ h_ => h_.1)); have n2_ := qM (Kd.R_lower (Kd.R_new' ho0 (Kd.R_lt (by (with_reducible repeat (first | apply Kd.R_alloc | apply Kd.R_drewN | apply Kd.R_drew)); exact (Kd.R_mono (Kd.R_far (p := ⟨gb249, 4, none⟩) (Kd.R_far (p := ⟨gb249, 3, none⟩) (Kd.R_far (p := ⟨gb249, 2, none⟩) (Kd.R_far (p := ⟨gb249, 1, none⟩) (Kd.R_far (p := ⟨gb249, 0, none⟩) (Kd.R_types HO243.out BK249.out (by decide)) (fun _ hk => hk.2) (.int .i64 t238)) (fun _ hk => hk.2) (.string t239)) (fun _ hk => hk.2) (.int .i64 t240)) (fun _ hk => hk.2) (.slice Ao12 t241.length co12)) (fun _ hk => hk.2) (.slice Ao13 t244.length co13)) (fun _ h_ => h_.1))))) (below_size (by repeat (first | (with_reducible first | exact HB.out | apply below_alloc | apply pw_below_drewN | apply below_drew1 | refine below_set ?_ GE249.out) | exact HB.out)))); have n3_ := qM (Kd.N_lower (Kd.N_mono (ok' := fun k_ => some k_ ≠ (v254 : Value).ownBlock ∧ some k_ ≠ (.slice Ao12 t241.length co12 : Value).ownBlock ∧ some k_ ≠ (.slice Ao13 t244.length co13 : Value).ownBlock ∧ k_ ≠ gb249) (Kd.R_N (Kd.R_bound ho1)) (fun k_ hk_ => ⟨hk_.1, (Kd.fresh' (Kd.R_lt (by (with_reducible repeat (first | apply Kd.R_alloc | apply Kd.R_drewN | apply Kd.R_drew)); exact (Kd.R_mono (Kd.R_far (p := ⟨gb249, 4, none⟩) (Kd.R_far (p := ⟨gb249, 3, none⟩) (Kd.R_far (p := ⟨gb249, 2, none⟩) (Kd.R_far (p := ⟨gb249, 1, none⟩) (Kd.R_far (p := ⟨gb249, 0, none⟩) (Kd.R_types HO243.out BK249.out (by decide)) (fun _ hk => hk.2) (.int .i64 t238)) (fun _ hk => hk.2) (.string t239)) (fun _ hk => hk.2) (.int .i64 t240)) (fun _ hk => hk.2) (.slice Ao12 t241.length co12)) (fun _ hk => hk.2) (.slice Ao13 t244.length co13)) (fun _ h_ => h_.1)))) k_ hk_.2.1), (Kd.fresh' (Kd.N_lt (by (with_reducible repeat (first | apply Kd.N_alloc | apply Kd.N_drewN | apply Kd.N_drew)); exact (Kd.N_mono (Kd.N_far (p := ⟨gb249, 4, none⟩) (Kd.N_far (p := ⟨gb249, 3, none⟩) (Kd.N_far (p := ⟨gb249, 2, none⟩) (Kd.N_far (p := ⟨gb249, 1, none⟩) (Kd.N_far (p := ⟨gb249, 0, none⟩) (Kd.N_mono HO246.out (fun k_ hk => (⟨hk, hk.2⟩ : _ ∧ k_ ≠ gb249))) (fun _ hk => hk.2) (.int .i64 t238)) (fun _ hk => hk.2) (.string t239)) (fun _ hk => hk.2) (.int .i64 t240)) (fun _ hk => hk.2) (.slice Ao12 t241.length co12)) (fun _ hk => hk.2) (.slice Ao13 t244.length co13)) (fun _ h_ => h_.1)))) k_ hk_.2.1), (Kd.freshB (g := gb249) (o := .cells #[.int .i64 t238, .string t239, .int .i64 t240, .slice Ao12 t241.length co12, .slice Ao13 t244.length co13] 28 (0, 0)) (by (with_reducible repeat (first | refine blk_drewN ?_ _ | refine blk_drew ?_ | refine blk_alloc ?_ _)); refine blk_put (cs := #[.int .i64 t238, .string t239, .int .i64 t240, .slice Ao12 t241.length co12, .slice none 0 0]) ?_ 4 _ rfl; (with_reducible repeat (first | refine blk_drewN ?_ _ | refine blk_drew ?_ | refine blk_alloc ?_ _)); refine blk_put (cs := #[.int .i64 t238, .string t239, .int .i64 t240, .slice none 0 0, .slice none 0 0]) ?_ 3 _ rfl; (with_reducible repeat (first | refine blk_drewN ?_ _ | refine blk_drew ?_ | refine blk_alloc ?_ _)); refine blk_put (cs := #[.int .i64 t238, .string t239, .int .i64 0, .slice none 0 0, .slice none 0 0]) ?_ 2 _ rfl; (with_reducible repeat (first | refine blk_drewN ?_ _ | refine blk_drew ?_ | refine blk_alloc ?_ _)); refine blk_put (cs := #[.int .i64 t238, .string (⟨#[]⟩ : ByteArray), .int .i64 0, .slice none 0 0, .slice none 0 0]) ?_ 1 _ rfl; (with_reducible repeat (first | refine blk_drewN ?_ _ | refine blk_drew ?_ | refine blk_alloc ?_ _)); refine blk_put (cs := #[.int .i64 0, .string (⟨#[]⟩ : ByteArray), .int .i64 0, .slice none 0 0, .slice none 0 0]) ?_ 0 _ rfl; (with_reducible repeat (first | refine blk_drewN ?_ _ | refine blk_drew ?_ | refine blk_alloc ?_ _)); exact BK249.out) k_ hk_.2.1)⟩)) (below_size (by repeat (first | (with_reducible first | exact HB.out | apply below_alloc | apply pw_below_drewN | apply below_drew1 | refine below_set ?_ GE249.out) | exact HB.out)))); have n4_ := qM (blk_below (g := gb249) (o := .cells #[.int .i64 t238, .string t239, .int .i64 t240, .slice Ao12 t241.length co12, .slice Ao13 t244.length co13] 28 (0, 0)) (by (with_reducible repeat (first | refine blk_drewN ?_ _ | refine blk_drew ?_ | refine blk_alloc ?_ _)); refine blk_put (cs := #[.int .i64 t238, .string t239, .int .i64 t240, .slice Ao12 t241.length co12, .slice none 0 0]) ?_ 4 _ rfl; (with_reducible repeat (first | refine blk_drewN ?_ _ | refine blk_drew ?_ | refine blk_alloc ?_ _)); refine blk_put (cs := #[.int .i64 t238, .string t239, .int .i64 t240, .slice none 0 0, .slice none 0 0]) ?_ 3 _ rfl; (with_reducible repeat (first | refine blk_drewN ?_ _ | refine blk_drew ?_ | refine blk_alloc ?_ _)); refine blk_put (cs := #[.int .i64 t238, .string t239, .int .i64 0, .slice none 0 0, .slice none 0 0]) ?_ 2 _ rfl; (with_reducible repeat (first | refine blk_drewN ?_ _ | refine blk_drew ?_ | refine blk_alloc ?_ _)); refine blk_put (cs := #[.int .i64 t238, .string (⟨#[]⟩ : ByteArray), .int .i64 0, .slice none 0 0, .slice none 0 0]) ?_ 1 _ rfl; (with_reducible repeat (first | refine blk_drewN ?_ _ | refine blk_drew ?_ | refine blk_alloc ?_ _)); refine blk_put (cs := #[.int .i64 0, .string (⟨#[]⟩ : ByteArray), .int .i64 0, .slice none 0 0, .slice none 0 0]) ?_ 0 _ rfl; (with_reducible repeat (first | refine blk_drewN ?_ _ | refine blk_drew ?_ | refine blk_alloc ?_ _)); exact BK249.out) hb); have n5_ := qM (below_step (by repeat (first | (with_reducible first | exact HB.out | apply below_alloc | apply pw_below_drewN | apply below_drew1 | refine below_set ?_ GE249.out) | exact HB.out)) hb); clear HO243; clear HO246; clear BK249; clear HB; have HO243 := n0_; have HO246 := n1_; have HO255 := n2_; have HO258 := n3_; have BK249 := n4_; have HB := n5_; clear n0_ n1_ n2_ n3_ n4_ n5_; (try clear hb); (try clear hb2); (try clear hk); (try clear hi); (try clear ho0); (try clear ho1)) | ((with_reducible refine gate_dst (N := 8) rfl ?_); (try (refine gate_guard (by rfl) ?_; dsimp only)); refine box_event ?hg (N := 8) ?hd (cs := #[.int .i64 0, .string (⟨#[]⟩ : ByteArray), .int .i64 0, .slice none 0 0, .slice none 0 0]) (t := 28) ?hr ?_; (case hd => rfl); (case hg => rfl); (case hr => first | (go_simp; done) | (go_simp; rfl)); intro gb261 hg w15 hbox hb; have n0_ := qM (Kd.R_below (qR HO243.out) hb); have n1_ := qM (Kd.N_below (Kd.N_elderB (qN HO246.out) gb261 (Nat.le_of_eq hg.symm)) hb); have n2_ := qM (Kd.R_below (qR HO255.out) hb); have n3_ := qM (Kd.N_below (Kd.N_elderB (qN HO258.out) gb261 (Nat.le_of_eq hg.symm)) hb); have n4_ := qM (blk_below (g := gb249) (o := .cells #[.int .i64 t238, .string t239, .int .i64 t240, .slice Ao12 t241.length co12, .slice Ao13 t244.length co13] 28 (0, 0)) (qK BK249.out) hb); have n5_ := qM (below_step (by repeat (first | (with_reducible first | exact HB.out | apply below_alloc | apply pw_below_drewN | apply below_drew1 | refine below_set ?_ GE249.out) | exact HB.out)) hb); have n6_ := qM (hbox); have n7_ := qM ((by rw [hg]; exact (below_size (by repeat (first | (with_reducible first | exact HB.out | apply below_alloc | apply pw_below_drewN | apply below_drew1 | refine below_set ?_ GE249.out) | exact HB.out))) : w.heap.size ≤ gb261)); have n8_ := qM ((by rw [hg]; exact (below_size (by repeat (first | (with_reducible first | exact HB.out | apply below_alloc | apply pw_below_drewN | apply below_drew1 | refine below_set ?_ GE249.out) | exact HB.out))) : w.heap.size ≤ gb261)); have n9_ := qM ((by rw [hg]; exact Nat.ne_of_lt (blk_lt (g := gb249) (o := .cells #[.int .i64 t238, .string t239, .int .i64 t240, .slice Ao12 t241.length co12, .slice Ao13 t244.length co13] 28 (0, 0)) (qK BK249.out)) : gb249 ≠ gb261)); have n10_ := qM ((by rw [hg]; exact Nat.ne_of_gt (blk_lt (g := gb249) (o := .cells #[.int .i64 t238, .string t239, .int .i64 t240, .slice Ao12 t241.length co12, .slice Ao13 t244.length co13] 28 (0, 0)) (qK BK249.out)) : gb261 ≠ gb249)); clear HO243; clear HO246; clear HO255; clear HO258; clear BK249; clear HB; have HO243 := n0_; have HO246 := n1_; have HO255 := n2_; have HO258 := n3_; have BK249 := n4_; have HB := n5_; have BK261 := n6_; have GW261 := n7_; have GE261 := n8_; have NB249_261 := n9_; have NB261_249 := n10_; clear n0_ n1_ n2_ n3_ n4_ n5_ n6_ n7_ n8_ n9_ n10_; clear hb hbox hg; have hnb16 := NB261_249.out; have hnc16 := NB249_261.out; have hcz17_0 : w15.cell? ⟨gb261, 0, none⟩ = some (.int .i64 0) := (blk_cell BK261.out 0).trans rfl; have hcz17_1 : w15.cell? ⟨gb261, 1, none⟩ = some (.string (⟨#[]⟩ : ByteArray)) := (blk_cell BK261.out 1).trans rfl; have hcz17_2 : w15.cell? ⟨gb261, 2, none⟩ = some (.int .i64 0) := (blk_cell BK261.out 2).trans rfl; have hcz17_3 : w15.cell? ⟨gb261, 3, none⟩ = some (.slice none 0 0) := (blk_cell BK261.out 3).trans rfl; have hcz17_4 : w15.cell? ⟨gb261, 4, none⟩ = some (.slice none 0 0) := (blk_cell BK261.out 4).trans rfl; have hfz17_0 := blk_frozen BK261.out 0; have hfz17_1 := blk_frozen BK261.out 1; have hfz17_2 := blk_frozen BK261.out 2; have hfz17_3 := blk_frozen BK261.out 3; have hfz17_4 := blk_frozen BK261.out 4; obtain ⟨Ao18, co18, eo18⟩ := Kd.R_slice HO255.out; subst eo18; obtain ⟨Ao19, co19, eo19⟩ := Kd.N_slice HO258.out; subst eo19))
  (try simp only [Act.put, List.setIfInBounds_toArray, List.set_cons_zero, List.set_cons_succ])
  go_cut [42] (fun v42 wc => ∃ (kq : Nat) (x42_6 : Bool), v42 = .bool x42_6 ∧ Aside0 (rookerylaw16_GramFuns.j0 kq a0 a1 x42_6 t238 t239 t240 t241 t244 t250 t251 t252 t253 t256 = some r) ∧ Aside0 (kq ≤ k) ∧ Aside0 (Kd.R (Kd.int .u8) 5 wc w.heap.size (fun k_ => some k_ ≠ ((.slice Ao18 t253.length co18) : Value).ownBlock) (.slice Ao12 t241.length co12) t241) ∧ Aside0 (Kd.N k28 28 wc w.heap.size (fun k_ => some k_ ≠ ((.slice Ao12 t241.length co12) : Value).ownBlock ∧ some k_ ≠ ((.slice Ao18 t253.length co18) : Value).ownBlock ∧ some k_ ≠ ((.slice Ao19 t256.length co19) : Value).ownBlock ∧ k_ ≠ gb249 ∧ k_ ≠ gb261) (.slice Ao13 t244.length co13) t244) ∧ Aside0 (Kd.R (Kd.int .u8) 5 wc w.heap.size (fun k_ => some k_ ≠ ((.slice Ao12 t241.length co12) : Value).ownBlock) (.slice Ao18 t253.length co18) t253) ∧ Aside0 (Kd.N k28 28 wc w.heap.size (fun k_ => some k_ ≠ ((.slice Ao12 t241.length co12) : Value).ownBlock ∧ some k_ ≠ ((.slice Ao13 t244.length co13) : Value).ownBlock ∧ some k_ ≠ ((.slice Ao18 t253.length co18) : Value).ownBlock ∧ k_ ≠ gb249 ∧ k_ ≠ gb261) (.slice Ao19 t256.length co19) t256) ∧ Aside0 (wc.heap[gb249]? = some (.cells #[.int .i64 t238, .string t239, .int .i64 t240, (.slice Ao12 t241.length co12), (.slice Ao13 t244.length co13)] 28 (0, 0))) ∧ Aside0 (wc.heap[gb261]? = some (.cells #[.int .i64 t250, .string t251, .int .i64 t252, (.slice Ao18 t253.length co18), (.slice Ao19 t256.length co19)] 28 (0, 0))) ∧ Aside0 (Below w.heap.size w wc))
  case first =>
   have H := HC7.out
   clear HC7
   by_cases c20 : t248 = 0
   ·
    rw [if_pos c20] at H
    have c20b0 : (t248 == 0) = true := beq_iff_eq.mpr c20
    have c20b1 : (t248 != 0) = false := bne_eq_false_iff_eq.mpr c20
    clear c20
    (first | rw [c20b0] | (simp only [i64_w, i32_w]; rw [c20b0]) | skip)
    by_cases c21 : t260 = 0
    ·
     rw [if_pos c21] at H
     have c21b0 : (t260 == 0) = true := beq_iff_eq.mpr c21
     have c21b1 : (t260 != 0) = false := bne_eq_false_iff_eq.mpr c21
     clear c21
     have H' := qM H
     clear H
     go_wp2
     go_meet
     case rel => exact ⟨_, (decide ((wrap64 ((a0.size : Int) + (a1.size : Int))) ≥ 16384)), qS, H', ⟨by first | omega | exact Nat.le_refl _⟩, ⟨by (with_reducible repeat (first | apply Kd.R_alloc | apply Kd.R_drewN | apply Kd.R_drew)); exact Kd.R_mono (Kd.R_far (p := ⟨gb261, 4, none⟩) (Kd.R_far (p := ⟨gb261, 3, none⟩) (Kd.R_far (p := ⟨gb261, 2, none⟩) (Kd.R_far (p := ⟨gb261, 1, none⟩) (Kd.R_far (p := ⟨gb261, 0, none⟩) (Kd.R_types HO243.out BK261.out (by decide)) (fun _ hk => hk.2) (.int .i64 t250)) (fun _ hk => hk.2) (.string t251)) (fun _ hk => hk.2) (.int .i64 t252)) (fun _ hk => hk.2) (.slice Ao18 t253.length co18)) (fun _ hk => hk.2) (.slice Ao19 t256.length co19)) (fun _ hk => hk.1.2)⟩, ⟨by (with_reducible repeat (first | apply Kd.N_alloc | apply Kd.N_drewN | apply Kd.N_drew)); exact Kd.N_mono (Kd.N_far (p := ⟨gb261, 4, none⟩) (Kd.N_far (p := ⟨gb261, 3, none⟩) (Kd.N_far (p := ⟨gb261, 2, none⟩) (Kd.N_far (p := ⟨gb261, 1, none⟩) (Kd.N_far (p := ⟨gb261, 0, none⟩) (Kd.N_mono HO246.out (fun k_ hk => (⟨hk, hk.2⟩ : _ ∧ k_ ≠ gb261))) (fun _ hk => hk.2) (.int .i64 t250)) (fun _ hk => hk.2) (.string t251)) (fun _ hk => hk.2) (.int .i64 t252)) (fun _ hk => hk.2) (.slice Ao18 t253.length co18)) (fun _ hk => hk.2) (.slice Ao19 t256.length co19)) (fun _ hk => ⟨hk.1.1.1.1.1, ⟨hk.1.1.1.2, ⟨hk.1.1.2, ⟨hk.1.1.1.1.2, hk.1.2⟩⟩⟩⟩)⟩, ⟨by (with_reducible repeat (first | apply Kd.R_alloc | apply Kd.R_drewN | apply Kd.R_drew)); exact Kd.R_mono (Kd.R_far (p := ⟨gb261, 4, none⟩) (Kd.R_far (p := ⟨gb261, 3, none⟩) (Kd.R_far (p := ⟨gb261, 2, none⟩) (Kd.R_far (p := ⟨gb261, 1, none⟩) (Kd.R_far (p := ⟨gb261, 0, none⟩) (Kd.R_types HO255.out BK261.out (by decide)) (fun _ hk => hk.2) (.int .i64 t250)) (fun _ hk => hk.2) (.string t251)) (fun _ hk => hk.2) (.int .i64 t252)) (fun _ hk => hk.2) (.slice Ao18 t253.length co18)) (fun _ hk => hk.2) (.slice Ao19 t256.length co19)) (fun _ hk => hk.1.2)⟩, ⟨by (with_reducible repeat (first | apply Kd.N_alloc | apply Kd.N_drewN | apply Kd.N_drew)); exact Kd.N_mono (Kd.N_far (p := ⟨gb261, 4, none⟩) (Kd.N_far (p := ⟨gb261, 3, none⟩) (Kd.N_far (p := ⟨gb261, 2, none⟩) (Kd.N_far (p := ⟨gb261, 1, none⟩) (Kd.N_far (p := ⟨gb261, 0, none⟩) (Kd.N_mono HO258.out (fun k_ hk => (⟨hk, hk.2⟩ : _ ∧ k_ ≠ gb261))) (fun _ hk => hk.2) (.int .i64 t250)) (fun _ hk => hk.2) (.string t251)) (fun _ hk => hk.2) (.int .i64 t252)) (fun _ hk => hk.2) (.slice Ao18 t253.length co18)) (fun _ hk => hk.2) (.slice Ao19 t256.length co19)) (fun _ hk => ⟨hk.1.1.2.1, ⟨hk.1.1.2.2.1, ⟨hk.1.1.1, ⟨hk.1.1.2.2.2, hk.1.2⟩⟩⟩⟩)⟩, ⟨by (with_reducible repeat (first | refine blk_drewN ?_ _ | refine blk_drew ?_ | refine blk_alloc ?_ _)); refine blk_far ?_ NB249_261.out _; (with_reducible repeat (first | refine blk_drewN ?_ _ | refine blk_drew ?_ | refine blk_alloc ?_ _)); refine blk_far ?_ NB249_261.out _; (with_reducible repeat (first | refine blk_drewN ?_ _ | refine blk_drew ?_ | refine blk_alloc ?_ _)); refine blk_far ?_ NB249_261.out _; (with_reducible repeat (first | refine blk_drewN ?_ _ | refine blk_drew ?_ | refine blk_alloc ?_ _)); refine blk_far ?_ NB249_261.out _; (with_reducible repeat (first | refine blk_drewN ?_ _ | refine blk_drew ?_ | refine blk_alloc ?_ _)); refine blk_far ?_ NB249_261.out _; (with_reducible repeat (first | refine blk_drewN ?_ _ | refine blk_drew ?_ | refine blk_alloc ?_ _)); exact BK249.out⟩, ⟨by (with_reducible repeat (first | refine blk_drewN ?_ _ | refine blk_drew ?_ | refine blk_alloc ?_ _)); refine blk_put (cs := #[.int .i64 t250, .string t251, .int .i64 t252, .slice Ao18 t253.length co18, .slice none 0 0]) ?_ 4 _ rfl; (with_reducible repeat (first | refine blk_drewN ?_ _ | refine blk_drew ?_ | refine blk_alloc ?_ _)); refine blk_put (cs := #[.int .i64 t250, .string t251, .int .i64 t252, .slice none 0 0, .slice none 0 0]) ?_ 3 _ rfl; (with_reducible repeat (first | refine blk_drewN ?_ _ | refine blk_drew ?_ | refine blk_alloc ?_ _)); refine blk_put (cs := #[.int .i64 t250, .string t251, .int .i64 0, .slice none 0 0, .slice none 0 0]) ?_ 2 _ rfl; (with_reducible repeat (first | refine blk_drewN ?_ _ | refine blk_drew ?_ | refine blk_alloc ?_ _)); refine blk_put (cs := #[.int .i64 t250, .string (⟨#[]⟩ : ByteArray), .int .i64 0, .slice none 0 0, .slice none 0 0]) ?_ 1 _ rfl; (with_reducible repeat (first | refine blk_drewN ?_ _ | refine blk_drew ?_ | refine blk_alloc ?_ _)); refine blk_put (cs := #[.int .i64 0, .string (⟨#[]⟩ : ByteArray), .int .i64 0, .slice none 0 0, .slice none 0 0]) ?_ 0 _ rfl; (with_reducible repeat (first | refine blk_drewN ?_ _ | refine blk_drew ?_ | refine blk_alloc ?_ _)); exact BK261.out⟩, ⟨by repeat (first | (with_reducible first | exact HB.out | apply below_alloc | apply pw_below_drewN | apply below_drew1 | refine below_set ?_ GE249.out | refine below_set ?_ GE261.out) | exact HB.out)⟩⟩
    ·
     rw [if_neg c21] at H
     have c21b0 : (t260 == 0) = false := beq_eq_false_iff_ne.mpr c21
     have c21b1 : (t260 != 0) = true := bne_iff_ne.mpr c21
     have H' := qM H
     clear H
     go_wp2
     go_meet
     case rel => exact ⟨_, (true), qS, H', ⟨by first | omega | exact Nat.le_refl _⟩, ⟨by (with_reducible repeat (first | apply Kd.R_alloc | apply Kd.R_drewN | apply Kd.R_drew)); exact Kd.R_mono (Kd.R_far (p := ⟨gb261, 4, none⟩) (Kd.R_far (p := ⟨gb261, 3, none⟩) (Kd.R_far (p := ⟨gb261, 2, none⟩) (Kd.R_far (p := ⟨gb261, 1, none⟩) (Kd.R_far (p := ⟨gb261, 0, none⟩) (Kd.R_types HO243.out BK261.out (by decide)) (fun _ hk => hk.2) (.int .i64 t250)) (fun _ hk => hk.2) (.string t251)) (fun _ hk => hk.2) (.int .i64 t252)) (fun _ hk => hk.2) (.slice Ao18 t253.length co18)) (fun _ hk => hk.2) (.slice Ao19 t256.length co19)) (fun _ hk => hk.1.2)⟩, ⟨by (with_reducible repeat (first | apply Kd.N_alloc | apply Kd.N_drewN | apply Kd.N_drew)); exact Kd.N_mono (Kd.N_far (p := ⟨gb261, 4, none⟩) (Kd.N_far (p := ⟨gb261, 3, none⟩) (Kd.N_far (p := ⟨gb261, 2, none⟩) (Kd.N_far (p := ⟨gb261, 1, none⟩) (Kd.N_far (p := ⟨gb261, 0, none⟩) (Kd.N_mono HO246.out (fun k_ hk => (⟨hk, hk.2⟩ : _ ∧ k_ ≠ gb261))) (fun _ hk => hk.2) (.int .i64 t250)) (fun _ hk => hk.2) (.string t251)) (fun _ hk => hk.2) (.int .i64 t252)) (fun _ hk => hk.2) (.slice Ao18 t253.length co18)) (fun _ hk => hk.2) (.slice Ao19 t256.length co19)) (fun _ hk => ⟨hk.1.1.1.1.1, ⟨hk.1.1.1.2, ⟨hk.1.1.2, ⟨hk.1.1.1.1.2, hk.1.2⟩⟩⟩⟩)⟩, ⟨by (with_reducible repeat (first | apply Kd.R_alloc | apply Kd.R_drewN | apply Kd.R_drew)); exact Kd.R_mono (Kd.R_far (p := ⟨gb261, 4, none⟩) (Kd.R_far (p := ⟨gb261, 3, none⟩) (Kd.R_far (p := ⟨gb261, 2, none⟩) (Kd.R_far (p := ⟨gb261, 1, none⟩) (Kd.R_far (p := ⟨gb261, 0, none⟩) (Kd.R_types HO255.out BK261.out (by decide)) (fun _ hk => hk.2) (.int .i64 t250)) (fun _ hk => hk.2) (.string t251)) (fun _ hk => hk.2) (.int .i64 t252)) (fun _ hk => hk.2) (.slice Ao18 t253.length co18)) (fun _ hk => hk.2) (.slice Ao19 t256.length co19)) (fun _ hk => hk.1.2)⟩, ⟨by (with_reducible repeat (first | apply Kd.N_alloc | apply Kd.N_drewN | apply Kd.N_drew)); exact Kd.N_mono (Kd.N_far (p := ⟨gb261, 4, none⟩) (Kd.N_far (p := ⟨gb261, 3, none⟩) (Kd.N_far (p := ⟨gb261, 2, none⟩) (Kd.N_far (p := ⟨gb261, 1, none⟩) (Kd.N_far (p := ⟨gb261, 0, none⟩) (Kd.N_mono HO258.out (fun k_ hk => (⟨hk, hk.2⟩ : _ ∧ k_ ≠ gb261))) (fun _ hk => hk.2) (.int .i64 t250)) (fun _ hk => hk.2) (.string t251)) (fun _ hk => hk.2) (.int .i64 t252)) (fun _ hk => hk.2) (.slice Ao18 t253.length co18)) (fun _ hk => hk.2) (.slice Ao19 t256.length co19)) (fun _ hk => ⟨hk.1.1.2.1, ⟨hk.1.1.2.2.1, ⟨hk.1.1.1, ⟨hk.1.1.2.2.2, hk.1.2⟩⟩⟩⟩)⟩, ⟨by (with_reducible repeat (first | refine blk_drewN ?_ _ | refine blk_drew ?_ | refine blk_alloc ?_ _)); refine blk_far ?_ NB249_261.out _; (with_reducible repeat (first | refine blk_drewN ?_ _ | refine blk_drew ?_ | refine blk_alloc ?_ _)); refine blk_far ?_ NB249_261.out _; (with_reducible repeat (first | refine blk_drewN ?_ _ | refine blk_drew ?_ | refine blk_alloc ?_ _)); refine blk_far ?_ NB249_261.out _; (with_reducible repeat (first | refine blk_drewN ?_ _ | refine blk_drew ?_ | refine blk_alloc ?_ _)); refine blk_far ?_ NB249_261.out _; (with_reducible repeat (first | refine blk_drewN ?_ _ | refine blk_drew ?_ | refine blk_alloc ?_ _)); refine blk_far ?_ NB249_261.out _; (with_reducible repeat (first | refine blk_drewN ?_ _ | refine blk_drew ?_ | refine blk_alloc ?_ _)); exact BK249.out⟩, ⟨by (with_reducible repeat (first | refine blk_drewN ?_ _ | refine blk_drew ?_ | refine blk_alloc ?_ _)); refine blk_put (cs := #[.int .i64 t250, .string t251, .int .i64 t252, .slice Ao18 t253.length co18, .slice none 0 0]) ?_ 4 _ rfl; (with_reducible repeat (first | refine blk_drewN ?_ _ | refine blk_drew ?_ | refine blk_alloc ?_ _)); refine blk_put (cs := #[.int .i64 t250, .string t251, .int .i64 t252, .slice none 0 0, .slice none 0 0]) ?_ 3 _ rfl; (with_reducible repeat (first | refine blk_drewN ?_ _ | refine blk_drew ?_ | refine blk_alloc ?_ _)); refine blk_put (cs := #[.int .i64 t250, .string t251, .int .i64 0, .slice none 0 0, .slice none 0 0]) ?_ 2 _ rfl; (with_reducible repeat (first | refine blk_drewN ?_ _ | refine blk_drew ?_ | refine blk_alloc ?_ _)); refine blk_put (cs := #[.int .i64 t250, .string (⟨#[]⟩ : ByteArray), .int .i64 0, .slice none 0 0, .slice none 0 0]) ?_ 1 _ rfl; (with_reducible repeat (first | refine blk_drewN ?_ _ | refine blk_drew ?_ | refine blk_alloc ?_ _)); refine blk_put (cs := #[.int .i64 0, .string (⟨#[]⟩ : ByteArray), .int .i64 0, .slice none 0 0, .slice none 0 0]) ?_ 0 _ rfl; (with_reducible repeat (first | refine blk_drewN ?_ _ | refine blk_drew ?_ | refine blk_alloc ?_ _)); exact BK261.out⟩, ⟨by repeat (first | (with_reducible first | exact HB.out | apply below_alloc | apply pw_below_drewN | apply below_drew1 | refine below_set ?_ GE249.out | refine below_set ?_ GE261.out) | exact HB.out)⟩⟩
   ·
    rw [if_neg c20] at H
    have c20b0 : (t248 == 0) = false := beq_eq_false_iff_ne.mpr c20
    have c20b1 : (t248 != 0) = true := bne_iff_ne.mpr c20
    (first | rw [c20b0] | (simp only [i64_w, i32_w]; rw [c20b0]) | skip)
    have H' := qM H
    clear H
    go_wp2
    go_meet
    case rel => exact ⟨_, (true), qS, H', ⟨by first | omega | exact Nat.le_refl _⟩, ⟨by (with_reducible repeat (first | apply Kd.R_alloc | apply Kd.R_drewN | apply Kd.R_drew)); exact Kd.R_mono (Kd.R_far (p := ⟨gb261, 4, none⟩) (Kd.R_far (p := ⟨gb261, 3, none⟩) (Kd.R_far (p := ⟨gb261, 2, none⟩) (Kd.R_far (p := ⟨gb261, 1, none⟩) (Kd.R_far (p := ⟨gb261, 0, none⟩) (Kd.R_types HO243.out BK261.out (by decide)) (fun _ hk => hk.2) (.int .i64 t250)) (fun _ hk => hk.2) (.string t251)) (fun _ hk => hk.2) (.int .i64 t252)) (fun _ hk => hk.2) (.slice Ao18 t253.length co18)) (fun _ hk => hk.2) (.slice Ao19 t256.length co19)) (fun _ hk => hk.1.2)⟩, ⟨by (with_reducible repeat (first | apply Kd.N_alloc | apply Kd.N_drewN | apply Kd.N_drew)); exact Kd.N_mono (Kd.N_far (p := ⟨gb261, 4, none⟩) (Kd.N_far (p := ⟨gb261, 3, none⟩) (Kd.N_far (p := ⟨gb261, 2, none⟩) (Kd.N_far (p := ⟨gb261, 1, none⟩) (Kd.N_far (p := ⟨gb261, 0, none⟩) (Kd.N_mono HO246.out (fun k_ hk => (⟨hk, hk.2⟩ : _ ∧ k_ ≠ gb261))) (fun _ hk => hk.2) (.int .i64 t250)) (fun _ hk => hk.2) (.string t251)) (fun _ hk => hk.2) (.int .i64 t252)) (fun _ hk => hk.2) (.slice Ao18 t253.length co18)) (fun _ hk => hk.2) (.slice Ao19 t256.length co19)) (fun _ hk => ⟨hk.1.1.1.1.1, ⟨hk.1.1.1.2, ⟨hk.1.1.2, ⟨hk.1.1.1.1.2, hk.1.2⟩⟩⟩⟩)⟩, ⟨by (with_reducible repeat (first | apply Kd.R_alloc | apply Kd.R_drewN | apply Kd.R_drew)); exact Kd.R_mono (Kd.R_far (p := ⟨gb261, 4, none⟩) (Kd.R_far (p := ⟨gb261, 3, none⟩) (Kd.R_far (p := ⟨gb261, 2, none⟩) (Kd.R_far (p := ⟨gb261, 1, none⟩) (Kd.R_far (p := ⟨gb261, 0, none⟩) (Kd.R_types HO255.out BK261.out (by decide)) (fun _ hk => hk.2) (.int .i64 t250)) (fun _ hk => hk.2) (.string t251)) (fun _ hk => hk.2) (.int .i64 t252)) (fun _ hk => hk.2) (.slice Ao18 t253.length co18)) (fun _ hk => hk.2) (.slice Ao19 t256.length co19)) (fun _ hk => hk.1.2)⟩, ⟨by (with_reducible repeat (first | apply Kd.N_alloc | apply Kd.N_drewN | apply Kd.N_drew)); exact Kd.N_mono (Kd.N_far (p := ⟨gb261, 4, none⟩) (Kd.N_far (p := ⟨gb261, 3, none⟩) (Kd.N_far (p := ⟨gb261, 2, none⟩) (Kd.N_far (p := ⟨gb261, 1, none⟩) (Kd.N_far (p := ⟨gb261, 0, none⟩) (Kd.N_mono HO258.out (fun k_ hk => (⟨hk, hk.2⟩ : _ ∧ k_ ≠ gb261))) (fun _ hk => hk.2) (.int .i64 t250)) (fun _ hk => hk.2) (.string t251)) (fun _ hk => hk.2) (.int .i64 t252)) (fun _ hk => hk.2) (.slice Ao18 t253.length co18)) (fun _ hk => hk.2) (.slice Ao19 t256.length co19)) (fun _ hk => ⟨hk.1.1.2.1, ⟨hk.1.1.2.2.1, ⟨hk.1.1.1, ⟨hk.1.1.2.2.2, hk.1.2⟩⟩⟩⟩)⟩, ⟨by (with_reducible repeat (first | refine blk_drewN ?_ _ | refine blk_drew ?_ | refine blk_alloc ?_ _)); refine blk_far ?_ NB249_261.out _; (with_reducible repeat (first | refine blk_drewN ?_ _ | refine blk_drew ?_ | refine blk_alloc ?_ _)); refine blk_far ?_ NB249_261.out _; (with_reducible repeat (first | refine blk_drewN ?_ _ | refine blk_drew ?_ | refine blk_alloc ?_ _)); refine blk_far ?_ NB249_261.out _; (with_reducible repeat (first | refine blk_drewN ?_ _ | refine blk_drew ?_ | refine blk_alloc ?_ _)); refine blk_far ?_ NB249_261.out _; (with_reducible repeat (first | refine blk_drewN ?_ _ | refine blk_drew ?_ | refine blk_alloc ?_ _)); refine blk_far ?_ NB249_261.out _; (with_reducible repeat (first | refine blk_drewN ?_ _ | refine blk_drew ?_ | refine blk_alloc ?_ _)); exact BK249.out⟩, ⟨by (with_reducible repeat (first | refine blk_drewN ?_ _ | refine blk_drew ?_ | refine blk_alloc ?_ _)); refine blk_put (cs := #[.int .i64 t250, .string t251, .int .i64 t252, .slice Ao18 t253.length co18, .slice none 0 0]) ?_ 4 _ rfl; (with_reducible repeat (first | refine blk_drewN ?_ _ | refine blk_drew ?_ | refine blk_alloc ?_ _)); refine blk_put (cs := #[.int .i64 t250, .string t251, .int .i64 t252, .slice none 0 0, .slice none 0 0]) ?_ 3 _ rfl; (with_reducible repeat (first | refine blk_drewN ?_ _ | refine blk_drew ?_ | refine blk_alloc ?_ _)); refine blk_put (cs := #[.int .i64 t250, .string t251, .int .i64 0, .slice none 0 0, .slice none 0 0]) ?_ 2 _ rfl; (with_reducible repeat (first | refine blk_drewN ?_ _ | refine blk_drew ?_ | refine blk_alloc ?_ _)); refine blk_put (cs := #[.int .i64 t250, .string (⟨#[]⟩ : ByteArray), .int .i64 0, .slice none 0 0, .slice none 0 0]) ?_ 1 _ rfl; (with_reducible repeat (first | refine blk_drewN ?_ _ | refine blk_drew ?_ | refine blk_alloc ?_ _)); refine blk_put (cs := #[.int .i64 0, .string (⟨#[]⟩ : ByteArray), .int .i64 0, .slice none 0 0, .slice none 0 0]) ?_ 0 _ rfl; (with_reducible repeat (first | refine blk_drewN ?_ _ | refine blk_drew ?_ | refine blk_alloc ?_ _)); exact BK261.out⟩, ⟨by repeat (first | (with_reducible first | exact HB.out | apply below_alloc | apply pw_below_drewN | apply below_drew1 | refine below_set ?_ GE249.out | refine below_set ?_ GE261.out) | exact HB.out)⟩⟩
  case rest =>
   clear HC7; try clear c1; try clear c2; try clear p2; try clear c4; try clear p6; try clear c7; try clear c8; try clear c16; try clear c20; try clear c20b0; try clear c20b1; try clear c21; try clear c21b0; try clear c21b1; try clear hcz11_0; try clear hcz11_1; try clear hcz11_2; try clear hcz11_3; try clear hcz11_4; try clear hcz17_0; try clear hcz17_1; try clear hcz17_2; try clear hcz17_3; try clear hcz17_4; try clear hfz11_0; try clear hfz11_1; try clear hfz11_2; try clear hfz11_3; try clear hfz11_4; try clear hfz17_0; try clear hfz17_1; try clear hfz17_2; try clear hfz17_3; try clear hfz17_4
   obtain ⟨kq, x42_6, rfl, HA, HJ6, HO_250003, HO_250004, HO_262003, HO_262004, BK249, BK261, HB⟩ := hcut
   cases kq with
   | zero => exact absurd HA.out (by simp [rookerylaw16_GramFuns.j0])
   | succ kj6 =>
    have H := HA.out
    clear HA
    simp only [rookerylaw16_GramFuns.j0] at H
    by_cases c22 : x42_6 = true
    ·
     subst c22
     have H1 : (some true) = some r := by rw [if_pos rfl] at H; exact H
     clear H
     have H := H1
     clear H1
     obtain rfl := qI H
     go_wp2
     go_ret
     exact ⟨by first | rfl | (simp [errW_none, errW_some] <;> rfl) | (simp [*, errW_none, errW_some] <;> rfl), by repeat (first | (with_reducible first | exact HB.out | apply below_alloc | apply pw_below_drewN | apply below_drew1 | refine below_set ?_ GE249.out | refine below_set ?_ GE261.out) | exact HB.out)⟩
    ·
     replace c22 := Bool.eq_false_iff.mpr c22
     subst c22
     have H1 : (if a0.size + 1 ≤ 9223372036854775807 then (if (a0 ++ (⟨#[10]⟩ : ByteArray)).size + a1.size ≤ 9223372036854775807 then ((rookerylaw16_parse.f kj6 ((a0 ++ (⟨#[10]⟩ : ByteArray)) ++ a1)).bind fun bt262 => (if bt262.2.2.2.2.2.2 = 155 then (some true) else ((some (([] : List (S28)) : List (S28))).bind fun y274 => (if y274.length + t244.length < 1759218604441 then ((some (y274 ++ t244 : List (S28))).bind fun y277 => (if y277.length + t256.length < 1759218604441 then (if bt262.2.2.2.2.2.2 = 0 then ((rookeryref16_Same.f kj6 bt262.1 bt262.2.1 bt262.2.2.1 bt262.2.2.2.1 bt262.2.2.2.2.1 18 (⟨#[]⟩ : ByteArray) 0 ([] : List Int) (y277 ++ t256)).bind fun t284 => (some t284)) else (some false)) else (none))) else (none))))) else (none)) else (none)) = some r := by rw [if_neg (show ¬ (false = true) by decide)] at H; exact H
     clear H
     have H := H1
     clear H1
     by_cases c23 : a0.size + 1 ≤ 9223372036854775807
     ·
      rw [if_pos c23] at H
      have c23b0 := eq_true c23
      have c23b1 : decide (a0.size + 1 ≤ 9223372036854775807) = true := decide_eq_true c23
      try have c23b2 : (9223372036854775807 < a0.size + 1) = False := eq_false (Nat.not_lt.2 c23)
      by_cases c24 : (a0 ++ (⟨#[10]⟩ : ByteArray)).size + a1.size ≤ 9223372036854775807
      ·
       rw [if_pos c24] at H
       have c24b0 := eq_true c24
       have c24b1 : decide ((a0 ++ (⟨#[10]⟩ : ByteArray)).size + a1.size ≤ 9223372036854775807) = true := decide_eq_true c24
       try have c24b2 : (9223372036854775807 < (a0 ++ (⟨#[10]⟩ : ByteArray)).size + a1.size) = False := eq_false (Nat.not_lt.2 c24)
       replace H := Option.bind_eq_some_iff.mp H
       obtain ⟨⟨t262, t263, t264, t265, t268, t271, t272⟩, A250, H⟩ := H
       replace H : (if t272 = 155 then (some true) else ((some (([] : List (S28)) : List (S28))).bind fun y274 => (if y274.length + t244.length < 1759218604441 then ((some (y274 ++ t244 : List (S28))).bind fun y277 => (if y277.length + t256.length < 1759218604441 then (if t272 = 0 then ((rookeryref16_Same.f kj6 t262 t263 t264 t265 t268 18 (⟨#[]⟩ : ByteArray) 0 ([] : List Int) (y277 ++ t256)).bind fun t284 => (some t284)) else (some false)) else (none))) else (none)))) = some r := H
       have A25 := qM A250
       clear A250
       by_cases c26 : t272 = 155
       ·
        rw [if_pos c26] at H
        have c26b0 : (t272 == 155) = true := beq_iff_eq.mpr c26
        have c26b1 : (t272 != 155) = false := bne_eq_false_iff_eq.mpr c26
        clear c26
        obtain rfl := qI H
        go_wp2_with (first | ((with_reducible refine gate_callee (f := 8) rfl ?_); refine goesL_ (some 48) rfl rfl Tryd.func8 (by kernel_rfl) rfl #[.string ((a0 ++ (⟨#[10]⟩ : ByteArray)) ++ a1)] rfl (by (try simp only [List.map_toArray, List.map_cons, List.map_nil]); first | done | rfl | (simp only [List.length_drop, List.length_take]; rfl)) ?_; (with_reducible refine (rookerylaw16_parse.calls kj6 ((a0 ++ (⟨#[10]⟩ : ByteArray)) ++ a1) t262 t263 t264 t265 t268 t271 t272 _ ?side1 A25.out).mono ?_); (case side1 => first | exact hG | exact hG.drewN _ | exact hG.drew | exact hG.below (by repeat (first | (with_reducible first | exact HB.out | apply below_alloc | apply pw_below_drewN | apply below_drew1 | refine below_set ?_ GE249.out | refine below_set ?_ GE261.out) | exact HB.out)) | (refine hG.below ?_; (repeat (first | (with_reducible exact Below.refl _ _) | (with_reducible refine pw_below_drewN ?_ _) | (with_reducible refine below_drew ?_) | (with_reducible refine below_alloc ?_ _))))); rintro e w27 ⟨v266, v269, rfl, ho0, ho1, hb⟩; refine ⟨_, rfl, ?_⟩; have n0_ := qM (Kd.R_elder' (qR HO_250003.out) (Kd.R_base ho0) hb); have n1_ := qM (Kd.N_mono (Kd.N_told (Kd.N_told (Kd.N_old (qN HO_250004.out) hb) (Kd.R_base ho0)) (Kd.R_base ho1)) (fun _ h_ => h_.1)); have n2_ := qM (Kd.R_elder' (qR HO_262003.out) (Kd.R_base ho0) hb); have n3_ := qM (Kd.N_mono (Kd.N_told (Kd.N_told (Kd.N_old (qN HO_262004.out) hb) (Kd.R_base ho0)) (Kd.R_base ho1)) (fun _ h_ => h_.1)); have n4_ := qM (Kd.R_lower (Kd.R_new' (Kd.R_new' ho0 (Kd.R_lt (qR HO_250003.out))) (Kd.R_lt (qR HO_262003.out))) (below_size (by repeat (first | (with_reducible first | exact HB.out | apply below_alloc | apply pw_below_drewN | apply below_drew1 | refine below_set ?_ GE249.out | refine below_set ?_ GE261.out) | exact HB.out)))); have n5_ := qM (Kd.N_lower (Kd.N_mono (ok' := fun k_ => some k_ ≠ (v266 : Value).ownBlock ∧ some k_ ≠ (.slice Ao12 t241.length co12 : Value).ownBlock ∧ some k_ ≠ (.slice Ao13 t244.length co13 : Value).ownBlock ∧ some k_ ≠ (.slice Ao18 t253.length co18 : Value).ownBlock ∧ some k_ ≠ (.slice Ao19 t256.length co19 : Value).ownBlock ∧ k_ ≠ gb249 ∧ k_ ≠ gb261) (Kd.R_N (Kd.R_bound ho1)) (fun k_ hk_ => ⟨hk_.1, (Kd.fresh' (Kd.R_lt (qR HO_250003.out)) k_ hk_.2.1), (Kd.fresh' (Kd.N_lt (qN HO_250004.out)) k_ hk_.2.1), (Kd.fresh' (Kd.R_lt (qR HO_262003.out)) k_ hk_.2.1), (Kd.fresh' (Kd.N_lt (qN HO_262004.out)) k_ hk_.2.1), (Kd.freshB (g := gb249) (o := .cells #[.int .i64 t238, .string t239, .int .i64 t240, .slice Ao12 t241.length co12, .slice Ao13 t244.length co13] 28 (0, 0)) (qK BK249.out) k_ hk_.2.1), (Kd.freshB (g := gb261) (o := .cells #[.int .i64 t250, .string t251, .int .i64 t252, .slice Ao18 t253.length co18, .slice Ao19 t256.length co19] 28 (0, 0)) (qK BK261.out) k_ hk_.2.1)⟩)) (below_size (by repeat (first | (with_reducible first | exact HB.out | apply below_alloc | apply pw_below_drewN | apply below_drew1 | refine below_set ?_ GE249.out | refine below_set ?_ GE261.out) | exact HB.out)))); have n6_ := qM (blk_below (g := gb249) (o := .cells #[.int .i64 t238, .string t239, .int .i64 t240, .slice Ao12 t241.length co12, .slice Ao13 t244.length co13] 28 (0, 0)) (qK BK249.out) hb); have n7_ := qM (blk_below (g := gb261) (o := .cells #[.int .i64 t250, .string t251, .int .i64 t252, .slice Ao18 t253.length co18, .slice Ao19 t256.length co19] 28 (0, 0)) (qK BK261.out) hb); have n8_ := qM (below_step (by repeat (first | (with_reducible first | exact HB.out | apply below_alloc | apply pw_below_drewN | apply below_drew1 | refine below_set ?_ GE249.out | refine below_set ?_ GE261.out) | exact HB.out)) hb); clear HO_250003; clear HO_250004; clear HO_262003; clear HO_262004; clear BK249; clear BK261; clear HB; have HO_250003 := n0_; have HO_250004 := n1_; have HO_262003 := n2_; have HO_262004 := n3_; have HO267 := n4_; have HO270 := n5_; have BK249 := n6_; have BK261 := n7_; have HB := n8_; clear n0_ n1_ n2_ n3_ n4_ n5_ n6_ n7_ n8_; (try clear hb); (try clear hb2); (try clear hk); (try clear hi); (try clear ho0); (try clear ho1)) | ((with_reducible refine gate_dst (N := 11) rfl ?_); (try (refine gate_guard (by rfl) ?_; dsimp only)); refine box_event ?hg (N := 11) ?hd (cs := #[.int .i64 0, .string (⟨#[]⟩ : ByteArray), .int .i64 0, .slice none 0 0, .slice none 0 0]) (t := 28) ?hr ?_; (case hd => rfl); (case hg => rfl); (case hr => first | (go_simp; done) | (go_simp; rfl)); intro gb273 hg w28 hbox hb; have n0_ := qM (Kd.R_below (qR HO_250003.out) hb); have n1_ := qM (Kd.N_below (Kd.N_elderB (qN HO_250004.out) gb273 (Nat.le_of_eq hg.symm)) hb); have n2_ := qM (Kd.R_below (qR HO_262003.out) hb); have n3_ := qM (Kd.N_below (Kd.N_elderB (qN HO_262004.out) gb273 (Nat.le_of_eq hg.symm)) hb); have n4_ := qM (Kd.R_below (qR HO267.out) hb); have n5_ := qM (Kd.N_below (Kd.N_elderB (qN HO270.out) gb273 (Nat.le_of_eq hg.symm)) hb); have n6_ := qM (blk_below (g := gb249) (o := .cells #[.int .i64 t238, .string t239, .int .i64 t240, .slice Ao12 t241.length co12, .slice Ao13 t244.length co13] 28 (0, 0)) (qK BK249.out) hb); have n7_ := qM (blk_below (g := gb261) (o := .cells #[.int .i64 t250, .string t251, .int .i64 t252, .slice Ao18 t253.length co18, .slice Ao19 t256.length co19] 28 (0, 0)) (qK BK261.out) hb); have n8_ := qM (below_step (by repeat (first | (with_reducible first | exact HB.out | apply below_alloc | apply pw_below_drewN | apply below_drew1 | refine below_set ?_ GE249.out | refine below_set ?_ GE261.out) | exact HB.out)) hb); have n9_ := qM (hbox); have n10_ := qM ((by rw [hg]; exact (below_size (by repeat (first | (with_reducible first | exact HB.out | apply below_alloc | apply pw_below_drewN | apply below_drew1 | refine below_set ?_ GE249.out | refine below_set ?_ GE261.out) | exact HB.out))) : w.heap.size ≤ gb273)); have n11_ := qM ((by rw [hg]; exact (below_size (by repeat (first | (with_reducible first | exact HB.out | apply below_alloc | apply pw_below_drewN | apply below_drew1 | refine below_set ?_ GE249.out | refine below_set ?_ GE261.out) | exact HB.out))) : w.heap.size ≤ gb273)); have n12_ := qM ((by rw [hg]; exact Nat.ne_of_lt (blk_lt (g := gb249) (o := .cells #[.int .i64 t238, .string t239, .int .i64 t240, .slice Ao12 t241.length co12, .slice Ao13 t244.length co13] 28 (0, 0)) (qK BK249.out)) : gb249 ≠ gb273)); have n13_ := qM ((by rw [hg]; exact Nat.ne_of_gt (blk_lt (g := gb249) (o := .cells #[.int .i64 t238, .string t239, .int .i64 t240, .slice Ao12 t241.length co12, .slice Ao13 t244.length co13] 28 (0, 0)) (qK BK249.out)) : gb273 ≠ gb249)); have n14_ := qM ((by rw [hg]; exact Nat.ne_of_lt (blk_lt (g := gb261) (o := .cells #[.int .i64 t250, .string t251, .int .i64 t252, .slice Ao18 t253.length co18, .slice Ao19 t256.length co19] 28 (0, 0)) (qK BK261.out)) : gb261 ≠ gb273)); have n15_ := qM ((by rw [hg]; exact Nat.ne_of_gt (blk_lt (g := gb261) (o := .cells #[.int .i64 t250, .string t251, .int .i64 t252, .slice Ao18 t253.length co18, .slice Ao19 t256.length co19] 28 (0, 0)) (qK BK261.out)) : gb273 ≠ gb261)); clear HO_250003; clear HO_250004; clear HO_262003; clear HO_262004; clear HO267; clear HO270; clear BK249; clear BK261; clear HB; have HO_250003 := n0_; have HO_250004 := n1_; have HO_262003 := n2_; have HO_262004 := n3_; have HO267 := n4_; have HO270 := n5_; have BK249 := n6_; have BK261 := n7_; have HB := n8_; have BK273 := n9_; have GW273 := n10_; have GE273 := n11_; have NB249_273 := n12_; have NB273_249 := n13_; have NB261_273 := n14_; have NB273_261 := n15_; clear n0_ n1_ n2_ n3_ n4_ n5_ n6_ n7_ n8_ n9_ n10_ n11_ n12_ n13_ n14_ n15_; clear hb hbox hg; have hnb29 := NB273_249.out; have hnc29 := NB249_273.out; have hnb30 := NB273_261.out; have hnc30 := NB261_273.out; have hcz31_0 : w28.cell? ⟨gb273, 0, none⟩ = some (.int .i64 0) := (blk_cell BK273.out 0).trans rfl; have hcz31_1 : w28.cell? ⟨gb273, 1, none⟩ = some (.string (⟨#[]⟩ : ByteArray)) := (blk_cell BK273.out 1).trans rfl; have hcz31_2 : w28.cell? ⟨gb273, 2, none⟩ = some (.int .i64 0) := (blk_cell BK273.out 2).trans rfl; have hcz31_3 : w28.cell? ⟨gb273, 3, none⟩ = some (.slice none 0 0) := (blk_cell BK273.out 3).trans rfl; have hcz31_4 : w28.cell? ⟨gb273, 4, none⟩ = some (.slice none 0 0) := (blk_cell BK273.out 4).trans rfl; have hfz31_0 := blk_frozen BK273.out 0; have hfz31_1 := blk_frozen BK273.out 1; have hfz31_2 := blk_frozen BK273.out 2; have hfz31_3 := blk_frozen BK273.out 3; have hfz31_4 := blk_frozen BK273.out 4; obtain ⟨Ao32, co32, eo32⟩ := Kd.R_slice HO267.out; subst eo32; obtain ⟨Ao33, co33, eo33⟩ := Kd.N_slice HO270.out; subst eo33))
        go_ret
        exact ⟨by first | rfl | (simp [errW_none, errW_some] <;> rfl) | (simp [*, errW_none, errW_some] <;> rfl), by repeat (first | (with_reducible first | exact HB.out | apply below_alloc | apply pw_below_drewN | apply below_drew1 | refine below_set ?_ GE249.out | refine below_set ?_ GE261.out | refine below_set ?_ GE273.out) | exact HB.out)⟩
       ·
        rw [if_neg c26] at H
        have c26b0 : (t272 == 155) = false := beq_eq_false_iff_ne.mpr c26
        have c26b1 : (t272 != 155) = true := bne_iff_ne.mpr c26
        obtain ⟨y274, hy274⟩ : ∃ y_ : List (S28), y_ = (([] : List (S28))) := ⟨_, rfl⟩
        replace H : (if y274.length + t244.length < 1759218604441 then ((some (y274 ++ t244 : List (S28))).bind fun y277 => (if y277.length + t256.length < 1759218604441 then (if t272 = 0 then ((rookeryref16_Same.f kj6 t262 t263 t264 t265 t268 18 (⟨#[]⟩ : ByteArray) 0 ([] : List Int) (y277 ++ t256)).bind fun t284 => (some t284)) else (some false)) else (none))) else (none)) = some r := by first | (rw [hy274]; with_reducible exact H) | (have H2_ := (Option.bind_some _ _).symm.trans H; rw [hy274]; with_reducible exact H2_) | (have H2_ := (Option.bind_some _ _).symm.trans H; with_reducible exact H2_) | with_reducible exact H | (rw [hy274]; exact H) | exact H
        have Ny274 := qM hy274
        clear hy274
        by_cases c34 : y274.length + t244.length < 1759218604441
        ·
         rw [if_pos c34] at H
         have LMc34 := qM c34
         clear c34
         obtain ⟨y277, hy277⟩ : ∃ y_ : List (S28), y_ = (y274 ++ t244) := ⟨_, rfl⟩
         replace H : (if y277.length + t256.length < 1759218604441 then (if t272 = 0 then ((rookeryref16_Same.f kj6 t262 t263 t264 t265 t268 18 (⟨#[]⟩ : ByteArray) 0 ([] : List Int) (y277 ++ t256)).bind fun t284 => (some t284)) else (some false)) else (none)) = some r := by first | (rw [hy277]; with_reducible exact H) | (have H2_ := (Option.bind_some _ _).symm.trans H; rw [hy277]; with_reducible exact H2_) | (have H2_ := (Option.bind_some _ _).symm.trans H; with_reducible exact H2_) | with_reducible exact H | (rw [hy277]; exact H) | exact H
         have Ny277 := qM hy277
         clear hy277
         by_cases c35 : y277.length + t256.length < 1759218604441
         ·
          rw [if_pos c35] at H
          have LMc35 := qM c35
          clear c35
          obtain ⟨y280, hy280⟩ : ∃ y_ : List (S28), y_ = (y277 ++ t256) := ⟨_, rfl⟩
          replace H : (if t272 = 0 then ((rookeryref16_Same.f kj6 t262 t263 t264 t265 t268 18 (⟨#[]⟩ : ByteArray) 0 ([] : List Int) y280).bind fun t284 => (some t284)) else (some false)) = some r := by first | (rw [hy280]; with_reducible exact H) | (have H2_ := (Option.bind_some _ _).symm.trans H; rw [hy280]; with_reducible exact H2_) | (have H2_ := (Option.bind_some _ _).symm.trans H; with_reducible exact H2_) | with_reducible exact H | (rw [hy280]; exact H) | exact H
          have Ny280 := qM hy280
          clear hy280
          have HC36 := qM H
          clear H
          try go_wp2_with (first | ((with_reducible refine gate_callee (f := 8) rfl ?_); refine goesL_ (some 48) rfl rfl Tryd.func8 (by kernel_rfl) rfl #[.string ((a0 ++ (⟨#[10]⟩ : ByteArray)) ++ a1)] rfl (by (try simp only [List.map_toArray, List.map_cons, List.map_nil]); first | done | rfl | (simp only [List.length_drop, List.length_take]; rfl)) ?_; (with_reducible refine (rookerylaw16_parse.calls kj6 ((a0 ++ (⟨#[10]⟩ : ByteArray)) ++ a1) t262 t263 t264 t265 t268 t271 t272 _ ?side1 A25.out).mono ?_); (case side1 => first | exact hG | exact hG.drewN _ | exact hG.drew | exact hG.below (by repeat (first | (with_reducible first | exact HB.out | apply below_alloc | apply pw_below_drewN | apply below_drew1 | refine below_set ?_ GE249.out | refine below_set ?_ GE261.out) | exact HB.out)) | (refine hG.below ?_; (repeat (first | (with_reducible exact Below.refl _ _) | (with_reducible refine pw_below_drewN ?_ _) | (with_reducible refine below_drew ?_) | (with_reducible refine below_alloc ?_ _))))); rintro e w38 ⟨v266, v269, rfl, ho0, ho1, hb⟩; refine ⟨_, rfl, ?_⟩; have n0_ := qM (Kd.R_elder' (qR HO_250003.out) (Kd.R_base ho0) hb); have n1_ := qM (Kd.N_mono (Kd.N_told (Kd.N_told (Kd.N_old (qN HO_250004.out) hb) (Kd.R_base ho0)) (Kd.R_base ho1)) (fun _ h_ => h_.1)); have n2_ := qM (Kd.R_elder' (qR HO_262003.out) (Kd.R_base ho0) hb); have n3_ := qM (Kd.N_mono (Kd.N_told (Kd.N_told (Kd.N_old (qN HO_262004.out) hb) (Kd.R_base ho0)) (Kd.R_base ho1)) (fun _ h_ => h_.1)); have n4_ := qM (Kd.R_lower (Kd.R_new' (Kd.R_new' ho0 (Kd.R_lt (qR HO_250003.out))) (Kd.R_lt (qR HO_262003.out))) (below_size (by repeat (first | (with_reducible first | exact HB.out | apply below_alloc | apply pw_below_drewN | apply below_drew1 | refine below_set ?_ GE249.out | refine below_set ?_ GE261.out) | exact HB.out)))); have n5_ := qM (Kd.N_lower (Kd.N_mono (ok' := fun k_ => some k_ ≠ (v266 : Value).ownBlock ∧ some k_ ≠ (.slice Ao12 t241.length co12 : Value).ownBlock ∧ some k_ ≠ (.slice Ao13 t244.length co13 : Value).ownBlock ∧ some k_ ≠ (.slice Ao18 t253.length co18 : Value).ownBlock ∧ some k_ ≠ (.slice Ao19 t256.length co19 : Value).ownBlock ∧ k_ ≠ gb249 ∧ k_ ≠ gb261) (Kd.R_N (Kd.R_bound ho1)) (fun k_ hk_ => ⟨hk_.1, (Kd.fresh' (Kd.R_lt (qR HO_250003.out)) k_ hk_.2.1), (Kd.fresh' (Kd.N_lt (qN HO_250004.out)) k_ hk_.2.1), (Kd.fresh' (Kd.R_lt (qR HO_262003.out)) k_ hk_.2.1), (Kd.fresh' (Kd.N_lt (qN HO_262004.out)) k_ hk_.2.1), (Kd.freshB (g := gb249) (o := .cells #[.int .i64 t238, .string t239, .int .i64 t240, .slice Ao12 t241.length co12, .slice Ao13 t244.length co13] 28 (0, 0)) (qK BK249.out) k_ hk_.2.1), (Kd.freshB (g := gb261) (o := .cells #[.int .i64 t250, .string t251, .int .i64 t252, .slice Ao18 t253.length co18, .slice Ao19 t256.length co19] 28 (0, 0)) (qK BK261.out) k_ hk_.2.1)⟩)) (below_size (by repeat (first | (with_reducible first | exact HB.out | apply below_alloc | apply pw_below_drewN | apply below_drew1 | refine below_set ?_ GE249.out | refine below_set ?_ GE261.out) | exact HB.out)))); have n6_ := qM (blk_below (g := gb249) (o := .cells #[.int .i64 t238, .string t239, .int .i64 t240, .slice Ao12 t241.length co12, .slice Ao13 t244.length co13] 28 (0, 0)) (qK BK249.out) hb); have n7_ := qM (blk_below (g := gb261) (o := .cells #[.int .i64 t250, .string t251, .int .i64 t252, .slice Ao18 t253.length co18, .slice Ao19 t256.length co19] 28 (0, 0)) (qK BK261.out) hb); have n8_ := qM (below_step (by repeat (first | (with_reducible first | exact HB.out | apply below_alloc | apply pw_below_drewN | apply below_drew1 | refine below_set ?_ GE249.out | refine below_set ?_ GE261.out) | exact HB.out)) hb); clear HO_250003; clear HO_250004; clear HO_262003; clear HO_262004; clear BK249; clear BK261; clear HB; have HO_250003 := n0_; have HO_250004 := n1_; have HO_262003 := n2_; have HO_262004 := n3_; have HO267 := n4_; have HO270 := n5_; have BK249 := n6_; have BK261 := n7_; have HB := n8_; clear n0_ n1_ n2_ n3_ n4_ n5_ n6_ n7_ n8_; (try clear hb); (try clear hb2); (try clear hk); (try clear hi); (try clear ho0); (try clear ho1)) | ((with_reducible refine gate_dst (N := 11) rfl ?_); (try (refine gate_guard (by rfl) ?_; dsimp only)); refine box_event ?hg (N := 11) ?hd (cs := #[.int .i64 0, .string (⟨#[]⟩ : ByteArray), .int .i64 0, .slice none 0 0, .slice none 0 0]) (t := 28) ?hr ?_; (case hd => rfl); (case hg => rfl); (case hr => first | (go_simp; done) | (go_simp; rfl)); intro gb273 hg w39 hbox hb; have n0_ := qM (Kd.R_below (qR HO_250003.out) hb); have n1_ := qM (Kd.N_below (Kd.N_elderB (qN HO_250004.out) gb273 (Nat.le_of_eq hg.symm)) hb); have n2_ := qM (Kd.R_below (qR HO_262003.out) hb); have n3_ := qM (Kd.N_below (Kd.N_elderB (qN HO_262004.out) gb273 (Nat.le_of_eq hg.symm)) hb); have n4_ := qM (Kd.R_below (qR HO267.out) hb); have n5_ := qM (Kd.N_below (Kd.N_elderB (qN HO270.out) gb273 (Nat.le_of_eq hg.symm)) hb); have n6_ := qM (blk_below (g := gb249) (o := .cells #[.int .i64 t238, .string t239, .int .i64 t240, .slice Ao12 t241.length co12, .slice Ao13 t244.length co13] 28 (0, 0)) (qK BK249.out) hb); have n7_ := qM (blk_below (g := gb261) (o := .cells #[.int .i64 t250, .string t251, .int .i64 t252, .slice Ao18 t253.length co18, .slice Ao19 t256.length co19] 28 (0, 0)) (qK BK261.out) hb); have n8_ := qM (below_step (by repeat (first | (with_reducible first | exact HB.out | apply below_alloc | apply pw_below_drewN | apply below_drew1 | refine below_set ?_ GE249.out | refine below_set ?_ GE261.out) | exact HB.out)) hb); have n9_ := qM (hbox); have n10_ := qM ((by rw [hg]; exact (below_size (by repeat (first | (with_reducible first | exact HB.out | apply below_alloc | apply pw_below_drewN | apply below_drew1 | refine below_set ?_ GE249.out | refine below_set ?_ GE261.out) | exact HB.out))) : w.heap.size ≤ gb273)); have n11_ := qM ((by rw [hg]; exact (below_size (by repeat (first | (with_reducible first | exact HB.out | apply below_alloc | apply pw_below_drewN | apply below_drew1 | refine below_set ?_ GE249.out | refine below_set ?_ GE261.out) | exact HB.out))) : w.heap.size ≤ gb273)); have n12_ := qM ((by rw [hg]; exact Nat.ne_of_lt (blk_lt (g := gb249) (o := .cells #[.int .i64 t238, .string t239, .int .i64 t240, .slice Ao12 t241.length co12, .slice Ao13 t244.length co13] 28 (0, 0)) (qK BK249.out)) : gb249 ≠ gb273)); have n13_ := qM ((by rw [hg]; exact Nat.ne_of_gt (blk_lt (g := gb249) (o := .cells #[.int .i64 t238, .string t239, .int .i64 t240, .slice Ao12 t241.length co12, .slice Ao13 t244.length co13] 28 (0, 0)) (qK BK249.out)) : gb273 ≠ gb249)); have n14_ := qM ((by rw [hg]; exact Nat.ne_of_lt (blk_lt (g := gb261) (o := .cells #[.int .i64 t250, .string t251, .int .i64 t252, .slice Ao18 t253.length co18, .slice Ao19 t256.length co19] 28 (0, 0)) (qK BK261.out)) : gb261 ≠ gb273)); have n15_ := qM ((by rw [hg]; exact Nat.ne_of_gt (blk_lt (g := gb261) (o := .cells #[.int .i64 t250, .string t251, .int .i64 t252, .slice Ao18 t253.length co18, .slice Ao19 t256.length co19] 28 (0, 0)) (qK BK261.out)) : gb273 ≠ gb261)); clear HO_250003; clear HO_250004; clear HO_262003; clear HO_262004; clear HO267; clear HO270; clear BK249; clear BK261; clear HB; have HO_250003 := n0_; have HO_250004 := n1_; have HO_262003 := n2_; have HO_262004 := n3_; have HO267 := n4_; have HO270 := n5_; have BK249 := n6_; have BK261 := n7_; have HB := n8_; have BK273 := n9_; have GW273 := n10_; have GE273 := n11_; have NB249_273 := n12_; have NB273_249 := n13_; have NB261_273 := n14_; have NB273_261 := n15_; clear n0_ n1_ n2_ n3_ n4_ n5_ n6_ n7_ n8_ n9_ n10_ n11_ n12_ n13_ n14_ n15_; clear hb hbox hg; have hnb40 := NB273_249.out; have hnc40 := NB249_273.out; have hnb41 := NB273_261.out; have hnc41 := NB261_273.out; have hcz42_0 : w39.cell? ⟨gb273, 0, none⟩ = some (.int .i64 0) := (blk_cell BK273.out 0).trans rfl; have hcz42_1 : w39.cell? ⟨gb273, 1, none⟩ = some (.string (⟨#[]⟩ : ByteArray)) := (blk_cell BK273.out 1).trans rfl; have hcz42_2 : w39.cell? ⟨gb273, 2, none⟩ = some (.int .i64 0) := (blk_cell BK273.out 2).trans rfl; have hcz42_3 : w39.cell? ⟨gb273, 3, none⟩ = some (.slice none 0 0) := (blk_cell BK273.out 3).trans rfl; have hcz42_4 : w39.cell? ⟨gb273, 4, none⟩ = some (.slice none 0 0) := (blk_cell BK273.out 4).trans rfl; have hfz42_0 := blk_frozen BK273.out 0; have hfz42_1 := blk_frozen BK273.out 1; have hfz42_2 := blk_frozen BK273.out 2; have hfz42_3 := blk_frozen BK273.out 3; have hfz42_4 := blk_frozen BK273.out 4; obtain ⟨Ao43, co43, eo43⟩ := Kd.R_slice HO267.out; subst eo43; obtain ⟨Ao44, co44, eo44⟩ := Kd.N_slice HO270.out; subst eo44))
          have n0_ : Aside0 (Kd.R (Kd.int .u8) 5 (((((w39.setCell ⟨gb273, 0, none⟩ (.int .i64 t262)).setCell ⟨gb273, 1, none⟩ (.string t263)).setCell ⟨gb273, 2, none⟩ (.int .i64 t264)).setCell ⟨gb273, 3, none⟩ (.slice Ao43 t265.length co43)).setCell ⟨gb273, 4, none⟩ (.slice Ao44 t268.length co44)) w.heap.size (fun k_ => some k_ ≠ (.slice Ao18 t253.length co18 : Value).ownBlock ∧ some k_ ≠ (.slice Ao43 t265.length co43 : Value).ownBlock) (.slice Ao12 t241.length co12) t241) := ⟨by (with_reducible repeat (first | apply Kd.R_alloc | apply Kd.R_drewN | apply Kd.R_drew)); exact Kd.R_mono (Kd.R_far (p := ⟨gb273, 4, none⟩) (Kd.R_far (p := ⟨gb273, 3, none⟩) (Kd.R_far (p := ⟨gb273, 2, none⟩) (Kd.R_far (p := ⟨gb273, 1, none⟩) (Kd.R_far (p := ⟨gb273, 0, none⟩) (Kd.R_types HO_250003.out BK273.out (by decide)) (fun _ hk => hk.2) (.int .i64 t262)) (fun _ hk => hk.2) (.string t263)) (fun _ hk => hk.2) (.int .i64 t264)) (fun _ hk => hk.2) (.slice Ao43 t265.length co43)) (fun _ hk => hk.2) (.slice Ao44 t268.length co44)) (fun _ hk => ⟨hk.1.1, hk.1.2⟩)⟩
          have n1_ : Aside0 (Kd.N k28 28 (((((w39.setCell ⟨gb273, 0, none⟩ (.int .i64 t262)).setCell ⟨gb273, 1, none⟩ (.string t263)).setCell ⟨gb273, 2, none⟩ (.int .i64 t264)).setCell ⟨gb273, 3, none⟩ (.slice Ao43 t265.length co43)).setCell ⟨gb273, 4, none⟩ (.slice Ao44 t268.length co44)) w.heap.size (fun k_ => some k_ ≠ (.slice Ao12 t241.length co12 : Value).ownBlock ∧ some k_ ≠ (.slice Ao18 t253.length co18 : Value).ownBlock ∧ some k_ ≠ (.slice Ao19 t256.length co19 : Value).ownBlock ∧ some k_ ≠ (.slice Ao43 t265.length co43 : Value).ownBlock ∧ some k_ ≠ (.slice Ao44 t268.length co44 : Value).ownBlock ∧ k_ ≠ gb249 ∧ k_ ≠ gb261 ∧ k_ ≠ gb273) (.slice Ao13 t244.length co13) t244) := ⟨by (with_reducible repeat (first | apply Kd.N_alloc | apply Kd.N_drewN | apply Kd.N_drew)); exact Kd.N_mono (Kd.N_far (p := ⟨gb273, 4, none⟩) (Kd.N_far (p := ⟨gb273, 3, none⟩) (Kd.N_far (p := ⟨gb273, 2, none⟩) (Kd.N_far (p := ⟨gb273, 1, none⟩) (Kd.N_far (p := ⟨gb273, 0, none⟩) (Kd.N_mono HO_250004.out (fun k_ hk => (⟨hk, hk.2⟩ : _ ∧ k_ ≠ gb273))) (fun _ hk => hk.2) (.int .i64 t262)) (fun _ hk => hk.2) (.string t263)) (fun _ hk => hk.2) (.int .i64 t264)) (fun _ hk => hk.2) (.slice Ao43 t265.length co43)) (fun _ hk => hk.2) (.slice Ao44 t268.length co44)) (fun _ hk => ⟨hk.1.1.1.1.1, ⟨hk.1.1.1.1.2.1, ⟨hk.1.1.1.1.2.2.1, ⟨hk.1.1.1.2, ⟨hk.1.1.2, ⟨hk.1.1.1.1.2.2.2.1, ⟨hk.1.1.1.1.2.2.2.2, hk.1.2⟩⟩⟩⟩⟩⟩⟩)⟩
          have n2_ : Aside0 (Kd.R (Kd.int .u8) 5 (((((w39.setCell ⟨gb273, 0, none⟩ (.int .i64 t262)).setCell ⟨gb273, 1, none⟩ (.string t263)).setCell ⟨gb273, 2, none⟩ (.int .i64 t264)).setCell ⟨gb273, 3, none⟩ (.slice Ao43 t265.length co43)).setCell ⟨gb273, 4, none⟩ (.slice Ao44 t268.length co44)) w.heap.size (fun k_ => some k_ ≠ (.slice Ao12 t241.length co12 : Value).ownBlock ∧ some k_ ≠ (.slice Ao43 t265.length co43 : Value).ownBlock) (.slice Ao18 t253.length co18) t253) := ⟨by (with_reducible repeat (first | apply Kd.R_alloc | apply Kd.R_drewN | apply Kd.R_drew)); exact Kd.R_mono (Kd.R_far (p := ⟨gb273, 4, none⟩) (Kd.R_far (p := ⟨gb273, 3, none⟩) (Kd.R_far (p := ⟨gb273, 2, none⟩) (Kd.R_far (p := ⟨gb273, 1, none⟩) (Kd.R_far (p := ⟨gb273, 0, none⟩) (Kd.R_types HO_262003.out BK273.out (by decide)) (fun _ hk => hk.2) (.int .i64 t262)) (fun _ hk => hk.2) (.string t263)) (fun _ hk => hk.2) (.int .i64 t264)) (fun _ hk => hk.2) (.slice Ao43 t265.length co43)) (fun _ hk => hk.2) (.slice Ao44 t268.length co44)) (fun _ hk => ⟨hk.1.1, hk.1.2⟩)⟩
          have n3_ : Aside0 (Kd.N k28 28 (((((w39.setCell ⟨gb273, 0, none⟩ (.int .i64 t262)).setCell ⟨gb273, 1, none⟩ (.string t263)).setCell ⟨gb273, 2, none⟩ (.int .i64 t264)).setCell ⟨gb273, 3, none⟩ (.slice Ao43 t265.length co43)).setCell ⟨gb273, 4, none⟩ (.slice Ao44 t268.length co44)) w.heap.size (fun k_ => some k_ ≠ (.slice Ao12 t241.length co12 : Value).ownBlock ∧ some k_ ≠ (.slice Ao13 t244.length co13 : Value).ownBlock ∧ some k_ ≠ (.slice Ao18 t253.length co18 : Value).ownBlock ∧ some k_ ≠ (.slice Ao43 t265.length co43 : Value).ownBlock ∧ some k_ ≠ (.slice Ao44 t268.length co44 : Value).ownBlock ∧ k_ ≠ gb249 ∧ k_ ≠ gb261 ∧ k_ ≠ gb273) (.slice Ao19 t256.length co19) t256) := ⟨by (with_reducible repeat (first | apply Kd.N_alloc | apply Kd.N_drewN | apply Kd.N_drew)); exact Kd.N_mono (Kd.N_far (p := ⟨gb273, 4, none⟩) (Kd.N_far (p := ⟨gb273, 3, none⟩) (Kd.N_far (p := ⟨gb273, 2, none⟩) (Kd.N_far (p := ⟨gb273, 1, none⟩) (Kd.N_far (p := ⟨gb273, 0, none⟩) (Kd.N_mono HO_262004.out (fun k_ hk => (⟨hk, hk.2⟩ : _ ∧ k_ ≠ gb273))) (fun _ hk => hk.2) (.int .i64 t262)) (fun _ hk => hk.2) (.string t263)) (fun _ hk => hk.2) (.int .i64 t264)) (fun _ hk => hk.2) (.slice Ao43 t265.length co43)) (fun _ hk => hk.2) (.slice Ao44 t268.length co44)) (fun _ hk => ⟨hk.1.1.1.1.1, ⟨hk.1.1.1.1.2.1, ⟨hk.1.1.1.1.2.2.1, ⟨hk.1.1.1.2, ⟨hk.1.1.2, ⟨hk.1.1.1.1.2.2.2.1, ⟨hk.1.1.1.1.2.2.2.2, hk.1.2⟩⟩⟩⟩⟩⟩⟩)⟩
          have n4_ : Aside0 (Kd.R (Kd.int .u8) 5 (((((w39.setCell ⟨gb273, 0, none⟩ (.int .i64 t262)).setCell ⟨gb273, 1, none⟩ (.string t263)).setCell ⟨gb273, 2, none⟩ (.int .i64 t264)).setCell ⟨gb273, 3, none⟩ (.slice Ao43 t265.length co43)).setCell ⟨gb273, 4, none⟩ (.slice Ao44 t268.length co44)) w.heap.size (fun k_ => some k_ ≠ (.slice Ao12 t241.length co12 : Value).ownBlock ∧ some k_ ≠ (.slice Ao18 t253.length co18 : Value).ownBlock) (.slice Ao43 t265.length co43) t265) := ⟨by (with_reducible repeat (first | apply Kd.R_alloc | apply Kd.R_drewN | apply Kd.R_drew)); exact Kd.R_mono (Kd.R_far (p := ⟨gb273, 4, none⟩) (Kd.R_far (p := ⟨gb273, 3, none⟩) (Kd.R_far (p := ⟨gb273, 2, none⟩) (Kd.R_far (p := ⟨gb273, 1, none⟩) (Kd.R_far (p := ⟨gb273, 0, none⟩) (Kd.R_types HO267.out BK273.out (by decide)) (fun _ hk => hk.2) (.int .i64 t262)) (fun _ hk => hk.2) (.string t263)) (fun _ hk => hk.2) (.int .i64 t264)) (fun _ hk => hk.2) (.slice Ao43 t265.length co43)) (fun _ hk => hk.2) (.slice Ao44 t268.length co44)) (fun _ hk => ⟨hk.1.1.2, hk.1.2⟩)⟩
          have n5_ : Aside0 (Kd.N k28 28 (((((w39.setCell ⟨gb273, 0, none⟩ (.int .i64 t262)).setCell ⟨gb273, 1, none⟩ (.string t263)).setCell ⟨gb273, 2, none⟩ (.int .i64 t264)).setCell ⟨gb273, 3, none⟩ (.slice Ao43 t265.length co43)).setCell ⟨gb273, 4, none⟩ (.slice Ao44 t268.length co44)) w.heap.size (fun k_ => some k_ ≠ (.slice Ao12 t241.length co12 : Value).ownBlock ∧ some k_ ≠ (.slice Ao13 t244.length co13 : Value).ownBlock ∧ some k_ ≠ (.slice Ao18 t253.length co18 : Value).ownBlock ∧ some k_ ≠ (.slice Ao19 t256.length co19 : Value).ownBlock ∧ some k_ ≠ (.slice Ao43 t265.length co43 : Value).ownBlock ∧ k_ ≠ gb249 ∧ k_ ≠ gb261 ∧ k_ ≠ gb273) (.slice Ao44 t268.length co44) t268) := ⟨by (with_reducible repeat (first | apply Kd.N_alloc | apply Kd.N_drewN | apply Kd.N_drew)); exact Kd.N_mono (Kd.N_far (p := ⟨gb273, 4, none⟩) (Kd.N_far (p := ⟨gb273, 3, none⟩) (Kd.N_far (p := ⟨gb273, 2, none⟩) (Kd.N_far (p := ⟨gb273, 1, none⟩) (Kd.N_far (p := ⟨gb273, 0, none⟩) (Kd.N_mono HO270.out (fun k_ hk => (⟨hk, hk.2⟩ : _ ∧ k_ ≠ gb273))) (fun _ hk => hk.2) (.int .i64 t262)) (fun _ hk => hk.2) (.string t263)) (fun _ hk => hk.2) (.int .i64 t264)) (fun _ hk => hk.2) (.slice Ao43 t265.length co43)) (fun _ hk => hk.2) (.slice Ao44 t268.length co44)) (fun _ hk => ⟨hk.1.1.2.1, ⟨hk.1.1.2.2.1, ⟨hk.1.1.2.2.2.1, ⟨hk.1.1.2.2.2.2.1, ⟨hk.1.1.1, ⟨hk.1.1.2.2.2.2.2.1, ⟨hk.1.1.2.2.2.2.2.2, hk.1.2⟩⟩⟩⟩⟩⟩⟩)⟩
          have n6_ : Aside0 ((((((w39.setCell ⟨gb273, 0, none⟩ (.int .i64 t262)).setCell ⟨gb273, 1, none⟩ (.string t263)).setCell ⟨gb273, 2, none⟩ (.int .i64 t264)).setCell ⟨gb273, 3, none⟩ (.slice Ao43 t265.length co43)).setCell ⟨gb273, 4, none⟩ (.slice Ao44 t268.length co44)).heap[gb249]? = some (.cells #[.int .i64 t238, .string t239, .int .i64 t240, .slice Ao12 t241.length co12, .slice Ao13 t244.length co13] 28 (0, 0))) := ⟨by (with_reducible repeat (first | refine blk_drewN ?_ _ | refine blk_drew ?_ | refine blk_alloc ?_ _)); refine blk_far ?_ NB249_273.out _; (with_reducible repeat (first | refine blk_drewN ?_ _ | refine blk_drew ?_ | refine blk_alloc ?_ _)); refine blk_far ?_ NB249_273.out _; (with_reducible repeat (first | refine blk_drewN ?_ _ | refine blk_drew ?_ | refine blk_alloc ?_ _)); refine blk_far ?_ NB249_273.out _; (with_reducible repeat (first | refine blk_drewN ?_ _ | refine blk_drew ?_ | refine blk_alloc ?_ _)); refine blk_far ?_ NB249_273.out _; (with_reducible repeat (first | refine blk_drewN ?_ _ | refine blk_drew ?_ | refine blk_alloc ?_ _)); refine blk_far ?_ NB249_273.out _; (with_reducible repeat (first | refine blk_drewN ?_ _ | refine blk_drew ?_ | refine blk_alloc ?_ _)); exact BK249.out⟩
          have n7_ : Aside0 ((((((w39.setCell ⟨gb273, 0, none⟩ (.int .i64 t262)).setCell ⟨gb273, 1, none⟩ (.string t263)).setCell ⟨gb273, 2, none⟩ (.int .i64 t264)).setCell ⟨gb273, 3, none⟩ (.slice Ao43 t265.length co43)).setCell ⟨gb273, 4, none⟩ (.slice Ao44 t268.length co44)).heap[gb261]? = some (.cells #[.int .i64 t250, .string t251, .int .i64 t252, .slice Ao18 t253.length co18, .slice Ao19 t256.length co19] 28 (0, 0))) := ⟨by (with_reducible repeat (first | refine blk_drewN ?_ _ | refine blk_drew ?_ | refine blk_alloc ?_ _)); refine blk_far ?_ NB261_273.out _; (with_reducible repeat (first | refine blk_drewN ?_ _ | refine blk_drew ?_ | refine blk_alloc ?_ _)); refine blk_far ?_ NB261_273.out _; (with_reducible repeat (first | refine blk_drewN ?_ _ | refine blk_drew ?_ | refine blk_alloc ?_ _)); refine blk_far ?_ NB261_273.out _; (with_reducible repeat (first | refine blk_drewN ?_ _ | refine blk_drew ?_ | refine blk_alloc ?_ _)); refine blk_far ?_ NB261_273.out _; (with_reducible repeat (first | refine blk_drewN ?_ _ | refine blk_drew ?_ | refine blk_alloc ?_ _)); refine blk_far ?_ NB261_273.out _; (with_reducible repeat (first | refine blk_drewN ?_ _ | refine blk_drew ?_ | refine blk_alloc ?_ _)); exact BK261.out⟩
          have n8_ : Aside0 ((((((w39.setCell ⟨gb273, 0, none⟩ (.int .i64 t262)).setCell ⟨gb273, 1, none⟩ (.string t263)).setCell ⟨gb273, 2, none⟩ (.int .i64 t264)).setCell ⟨gb273, 3, none⟩ (.slice Ao43 t265.length co43)).setCell ⟨gb273, 4, none⟩ (.slice Ao44 t268.length co44)).heap[gb273]? = some (.cells #[.int .i64 t262, .string t263, .int .i64 t264, .slice Ao43 t265.length co43, .slice Ao44 t268.length co44] 28 (0, 0))) := ⟨by (with_reducible repeat (first | refine blk_drewN ?_ _ | refine blk_drew ?_ | refine blk_alloc ?_ _)); refine blk_put (cs := #[.int .i64 t262, .string t263, .int .i64 t264, .slice Ao43 t265.length co43, .slice none 0 0]) ?_ 4 _ rfl; (with_reducible repeat (first | refine blk_drewN ?_ _ | refine blk_drew ?_ | refine blk_alloc ?_ _)); refine blk_put (cs := #[.int .i64 t262, .string t263, .int .i64 t264, .slice none 0 0, .slice none 0 0]) ?_ 3 _ rfl; (with_reducible repeat (first | refine blk_drewN ?_ _ | refine blk_drew ?_ | refine blk_alloc ?_ _)); refine blk_put (cs := #[.int .i64 t262, .string t263, .int .i64 0, .slice none 0 0, .slice none 0 0]) ?_ 2 _ rfl; (with_reducible repeat (first | refine blk_drewN ?_ _ | refine blk_drew ?_ | refine blk_alloc ?_ _)); refine blk_put (cs := #[.int .i64 t262, .string (⟨#[]⟩ : ByteArray), .int .i64 0, .slice none 0 0, .slice none 0 0]) ?_ 1 _ rfl; (with_reducible repeat (first | refine blk_drewN ?_ _ | refine blk_drew ?_ | refine blk_alloc ?_ _)); refine blk_put (cs := #[.int .i64 0, .string (⟨#[]⟩ : ByteArray), .int .i64 0, .slice none 0 0, .slice none 0 0]) ?_ 0 _ rfl; (with_reducible repeat (first | refine blk_drewN ?_ _ | refine blk_drew ?_ | refine blk_alloc ?_ _)); exact BK273.out⟩
          have n9_ : Aside0 (Below w.heap.size w (((((w39.setCell ⟨gb273, 0, none⟩ (.int .i64 t262)).setCell ⟨gb273, 1, none⟩ (.string t263)).setCell ⟨gb273, 2, none⟩ (.int .i64 t264)).setCell ⟨gb273, 3, none⟩ (.slice Ao43 t265.length co43)).setCell ⟨gb273, 4, none⟩ (.slice Ao44 t268.length co44))) := ⟨by repeat (first | (with_reducible first | exact HB.out | apply below_alloc | apply pw_below_drewN | apply below_drew1 | refine below_set ?_ GE249.out | refine below_set ?_ GE261.out | refine below_set ?_ GE273.out) | exact HB.out)⟩
          (try clear HO_250003)
          (try clear HO_250004)
          (try clear HO_262003)
          (try clear HO_262004)
          (try clear HO267)
          (try clear HO270)
          (try clear BK249)
          (try clear BK261)
          (try clear BK273)
          (try clear HB)
          generalize (((((w39.setCell ⟨gb273, 0, none⟩ (.int .i64 t262)).setCell ⟨gb273, 1, none⟩ (.string t263)).setCell ⟨gb273, 2, none⟩ (.int .i64 t264)).setCell ⟨gb273, 3, none⟩ (.slice Ao43 t265.length co43)).setCell ⟨gb273, 4, none⟩ (.slice Ao44 t268.length co44)) = w45 at n0_ n1_ n2_ n3_ n4_ n5_ n6_ n7_ n8_ n9_ ⊢
          have HO_250003 := n0_
          have HO_250004 := n1_
          have HO_262003 := n2_
          have HO_262004 := n3_
          have HO267 := n4_
          have HO270 := n5_
          have BK249 := n6_
          have BK261 := n7_
          have BK273 := n8_
          have HB := n9_
          clear n0_ n1_ n2_ n3_ n4_ n5_ n6_ n7_ n8_ n9_
          have n0_ := qM (Kd.R_drew HO_250003.out)
          have n1_ := qM (Kd.N_drew HO_250004.out)
          have n2_ := qM (Kd.R_drew HO_262003.out)
          have n3_ := qM (Kd.N_drew HO_262004.out)
          have n4_ := qM (Kd.R_drew HO267.out)
          have n5_ := qM (Kd.N_drew HO270.out)
          have n6_ := qM (blk_drew BK249.out)
          have n7_ := qM (blk_drew BK261.out)
          have n8_ := qM (blk_drew BK273.out)
          have n9_ := qM (below_drew1 HB.out)
          clear HO_250003; clear HO_250004; clear HO_262003; clear HO_262004; clear HO267; clear HO270; clear BK249; clear BK261; clear BK273; clear HB
          have HO_250003 := n0_
          have HO_250004 := n1_
          have HO_262003 := n2_
          have HO_262004 := n3_
          have HO267 := n4_
          have HO270 := n5_
          have BK249 := n6_
          have BK261 := n7_
          have BK273 := n8_
          have HB := n9_
          clear n0_ n1_ n2_ n3_ n4_ n5_ n6_ n7_ n8_ n9_
          refine start_ (n := 10) (S := fun w' => w'.cell? ⟨gb249, 0, none⟩ = some (.int .i64 t238) ∧ w'.cell? ⟨gb249, 1, none⟩ = some (.string t239) ∧ w'.cell? ⟨gb249, 2, none⟩ = some (.int .i64 t240) ∧ w'.cell? ⟨gb249, 3, none⟩ = some (.slice Ao12 t241.length co12) ∧ w'.cell? ⟨gb249, 4, none⟩ = some (.slice Ao13 t244.length co13) ∧ w'.cell? ⟨gb261, 0, none⟩ = some (.int .i64 t250) ∧ w'.cell? ⟨gb261, 1, none⟩ = some (.string t251) ∧ w'.cell? ⟨gb261, 2, none⟩ = some (.int .i64 t252) ∧ w'.cell? ⟨gb261, 3, none⟩ = some (.slice Ao18 t253.length co18) ∧ w'.cell? ⟨gb261, 4, none⟩ = some (.slice Ao19 t256.length co19)) (ds := []) #[false, false, false, false, false, false, false, false, false, false] (by kernel_rfl) rfl rfl ⟨(blk_cell BK249.out 0).trans rfl, (blk_cell BK249.out 1).trans rfl, (blk_cell BK249.out 2).trans rfl, (blk_cell BK249.out 3).trans rfl, (blk_cell BK249.out 4).trans rfl, (blk_cell BK261.out 0).trans rfl, (blk_cell BK261.out 1).trans rfl, (blk_cell BK261.out 2).trans rfl, (blk_cell BK261.out 3).trans rfl, (blk_cell BK261.out 4).trans rfl⟩ (fun hHeld => ?_); refine with_tabW rookerylaw16_GramFuns.tab10 rookerylaw16_GramFuns.bits10 (fun HT_ HW_ => ?_)
          generalize w45.drew = w46 at HO_250003 HO_250004 HO_262003 HO_262004 HO267 HO270 BK249 BK261 BK273 HB hHeld ⊢
          refine pure_ (i := 1) (N := some 55) (v := ?_) (a' := ?_) #[false, true, false, false, false, false, false, false, false, false] rfl rfl (any_of HT_.out (by kernel_rfl)) (fun _ _ _ h => h) (Or.inl ⟨by rfl, ?_⟩) ?_ ?_
          rotate_left
          · intro w'; go_simp; with_reducible rfl
          rotate_left
          ·
           simp only [Act.put, List.setIfInBounds_toArray, List.set_cons_zero, List.set_cons_succ, i64_w, i32_w]
           rfl
          refine pure_ (i := 4) (N := some 58) (v := ?_) (a' := ?_) #[false, true, false, false, true, false, false, false, false, false] rfl rfl (any_of HT_.out (by kernel_rfl)) (fun _ _ _ h => h) (Or.inl ⟨by rfl, ?_⟩) ?_ ?_
          rotate_left
          · intro w'; go_simp; with_reducible rfl
          rotate_left
          ·
           simp only [Act.put, List.setIfInBounds_toArray, List.set_cons_zero, List.set_cons_succ, i64_w, i32_w]
           rfl
          refine take_ (i := 2) (N := some 56) (v := ?_) (a' := ?_) #[false, true, true, false, true, false, false, false, false, false] rfl rfl (take_ofW HT_.out HW_.out (by kernel_rfl)) (fun _ _ _ h => h) (Or.inl ⟨by rfl, ?_⟩) hHeld ?_ ?_
          rotate_left
          ·
           rintro w' ⟨s0, s1, s2, s3, s4, s5, s6, s7, s8, s9⟩
           go_simp
           with_reducible rfl
          rotate_left
          ·
           simp only [Act.put, List.setIfInBounds_toArray, List.set_cons_zero, List.set_cons_succ, i64_w, i32_w]
           rfl
          refine take_ (i := 5) (N := some 59) (v := ?_) (a' := ?_) #[false, true, true, false, true, true, false, false, false, false] rfl rfl (take_ofW HT_.out HW_.out (by kernel_rfl)) (fun _ _ _ h => h) (Or.inl ⟨by rfl, ?_⟩) hHeld ?_ ?_
          rotate_left
          ·
           rintro w' ⟨s0, s1, s2, s3, s4, s5, s6, s7, s8, s9⟩
           go_simp
           with_reducible rfl
          rotate_left
          ·
           simp only [Act.put, List.setIfInBounds_toArray, List.set_cons_zero, List.set_cons_succ, i64_w, i32_w]
           rfl
          refine join_ (σ := Value × Value × Value × Nat) 1 #[true, true, true, true, true, true, true, true, true, false] (fun s_ => [(54, s_.1), (57, s_.2.1), (60, s_.2.2.1), (14, .pointer (some ⟨s_.2.2.2, 0, none⟩)), (61, .agg #[.int .i64 18, .string (⟨#[]⟩ : ByteArray), .int .i64 0, .slice none 0 0, s_.2.2.1])]) (fun s_ w' => (w'.cell? ⟨gb249, 0, none⟩ = some (.int .i64 t238) ∧ w'.cell? ⟨gb249, 1, none⟩ = some (.string t239) ∧ w'.cell? ⟨gb249, 2, none⟩ = some (.int .i64 t240) ∧ w'.cell? ⟨gb249, 3, none⟩ = some (.slice Ao12 t241.length co12) ∧ w'.cell? ⟨gb249, 4, none⟩ = some (.slice Ao13 t244.length co13) ∧ w'.cell? ⟨gb261, 0, none⟩ = some (.int .i64 t250) ∧ w'.cell? ⟨gb261, 1, none⟩ = some (.string t251) ∧ w'.cell? ⟨gb261, 2, none⟩ = some (.int .i64 t252) ∧ w'.cell? ⟨gb261, 3, none⟩ = some (.slice Ao18 t253.length co18) ∧ w'.cell? ⟨gb261, 4, none⟩ = some (.slice Ao19 t256.length co19)) ∧ (Kd.R (Kd.int .u8) 5 w' w.heap.size (fun k_ => some k_ ≠ (.slice Ao12 t241.length co12 : Value).ownBlock ∧ some k_ ≠ (.slice Ao18 t253.length co18 : Value).ownBlock) (.slice Ao43 t265.length co43) t265) ∧ (Kd.N k28 28 w' w.heap.size (fun k_ => some k_ ≠ (.slice Ao43 t265.length co43 : Value).ownBlock ∧ some k_ ≠ (s_.2.2.1 : Value).ownBlock ∧ some k_ ≠ (.slice Ao12 t241.length co12 : Value).ownBlock ∧ some k_ ≠ (.slice Ao13 t244.length co13 : Value).ownBlock ∧ some k_ ≠ (.slice Ao18 t253.length co18 : Value).ownBlock ∧ some k_ ≠ (.slice Ao19 t256.length co19 : Value).ownBlock ∧ k_ ≠ gb249 ∧ k_ ≠ gb261 ∧ k_ ≠ gb273 ∧ k_ ≠ s_.2.2.2) (.slice Ao44 t268.length co44) t268) ∧ (Kd.N k28 28 w' w.heap.size (fun k_ => some k_ ≠ (.slice Ao43 t265.length co43 : Value).ownBlock ∧ some k_ ≠ (.slice Ao44 t268.length co44 : Value).ownBlock ∧ some k_ ≠ (.slice Ao12 t241.length co12 : Value).ownBlock ∧ some k_ ≠ (.slice Ao18 t253.length co18 : Value).ownBlock ∧ k_ ≠ gb249 ∧ k_ ≠ gb261 ∧ k_ ≠ gb273 ∧ k_ ≠ s_.2.2.2) s_.2.2.1 y280) ∧ (Kd.R (Kd.int .u8) 5 w' w.heap.size (fun k_ => some k_ ≠ (.slice Ao43 t265.length co43 : Value).ownBlock ∧ some k_ ≠ (.slice Ao18 t253.length co18 : Value).ownBlock) (.slice Ao12 t241.length co12) t241) ∧ (Kd.N k28 28 w' w.heap.size (fun k_ => some k_ ≠ (.slice Ao43 t265.length co43 : Value).ownBlock ∧ some k_ ≠ (.slice Ao44 t268.length co44 : Value).ownBlock ∧ some k_ ≠ (s_.2.2.1 : Value).ownBlock ∧ some k_ ≠ (.slice Ao12 t241.length co12 : Value).ownBlock ∧ some k_ ≠ (.slice Ao18 t253.length co18 : Value).ownBlock ∧ some k_ ≠ (.slice Ao19 t256.length co19 : Value).ownBlock ∧ k_ ≠ gb249 ∧ k_ ≠ gb261 ∧ k_ ≠ gb273 ∧ k_ ≠ s_.2.2.2) (.slice Ao13 t244.length co13) t244) ∧ (Kd.R (Kd.int .u8) 5 w' w.heap.size (fun k_ => some k_ ≠ (.slice Ao43 t265.length co43 : Value).ownBlock ∧ some k_ ≠ (.slice Ao12 t241.length co12 : Value).ownBlock) (.slice Ao18 t253.length co18) t253) ∧ (Kd.N k28 28 w' w.heap.size (fun k_ => some k_ ≠ (.slice Ao43 t265.length co43 : Value).ownBlock ∧ some k_ ≠ (.slice Ao44 t268.length co44 : Value).ownBlock ∧ some k_ ≠ (s_.2.2.1 : Value).ownBlock ∧ some k_ ≠ (.slice Ao12 t241.length co12 : Value).ownBlock ∧ some k_ ≠ (.slice Ao13 t244.length co13 : Value).ownBlock ∧ some k_ ≠ (.slice Ao18 t253.length co18 : Value).ownBlock ∧ k_ ≠ gb249 ∧ k_ ≠ gb261 ∧ k_ ≠ gb273 ∧ k_ ≠ s_.2.2.2) (.slice Ao19 t256.length co19) t256) ∧ (w'.heap[gb249]? = some (.cells #[.int .i64 t238, .string t239, .int .i64 t240, .slice Ao12 t241.length co12, .slice Ao13 t244.length co13] 28 (0, 0))) ∧ (w'.heap[gb261]? = some (.cells #[.int .i64 t250, .string t251, .int .i64 t252, .slice Ao18 t253.length co18, .slice Ao19 t256.length co19] 28 (0, 0))) ∧ (w'.heap[gb273]? = some (.cells #[.int .i64 t262, .string t263, .int .i64 t264, .slice Ao43 t265.length co43, .slice Ao44 t268.length co44] 28 (0, 0))) ∧ (w'.heap[s_.2.2.2]? = some (.cells #[.int .i64 0, .string (⟨#[]⟩ : ByteArray), .int .i64 0, .slice none 0 0, .slice none 0 0] 28 (0, 0))) ∧ (w.heap.size ≤ s_.2.2.2) ∧ (w.heap.size ≤ s_.2.2.2) ∧ (gb249 ≠ s_.2.2.2) ∧ (s_.2.2.2 ≠ gb249) ∧ (gb261 ≠ s_.2.2.2) ∧ (s_.2.2.2 ≠ gb261) ∧ (gb273 ≠ s_.2.2.2) ∧ (s_.2.2.2 ≠ gb273) ∧ (Below w.heap.size w w')) ?_ ?_
          rotate_left
          ·
           intro hCont
           refine two_ (i := 0) (j := 8) (Ni := some 54) (Nj := some 14) #[true, true, true, false, true, true, false, false, false, false] #[false, true, true, false, true, true, false, false, true, false] rfl rfl rfl rfl (two_of HT_.out (by kernel_rfl)) (by decide) (by decide) (fun K hK => ?_) (fun K hK => ?_)
           ·
            skip
            refine Kd.N_lit_step k28 _ 28 ?hg (N' := 54) ?hd (xs := ([] : List (S28))) (inner := []) (ok := (fun k_ => some k_ ≠ (.slice Ao12 t241.length co12 : Value).ownBlock ∧ some k_ ≠ (.slice Ao13 t244.length co13 : Value).ownBlock ∧ some k_ ≠ (.slice Ao18 t253.length co18 : Value).ownBlock ∧ some k_ ≠ (.slice Ao19 t256.length co19 : Value).ownBlock ∧ some k_ ≠ (.slice Ao43 t265.length co43 : Value).ownBlock ∧ some k_ ≠ (.slice Ao44 t268.length co44 : Value).ownBlock ∧ k_ ≠ gb249 ∧ k_ ≠ gb261 ∧ k_ ≠ gb273)) (okp := (fun k_ => some k_ ≠ (.slice Ao12 t241.length co12 : Value).ownBlock ∧ some k_ ≠ (.slice Ao13 t244.length co13 : Value).ownBlock ∧ some k_ ≠ (.slice Ao18 t253.length co18 : Value).ownBlock ∧ some k_ ≠ (.slice Ao19 t256.length co19 : Value).ownBlock ∧ some k_ ≠ (.slice Ao43 t265.length co43 : Value).ownBlock ∧ some k_ ≠ (.slice Ao44 t268.length co44 : Value).ownBlock ∧ k_ ≠ gb249 ∧ k_ ≠ gb261 ∧ k_ ≠ gb273)) ?hr ?hp (fun _ hk => hk) ((show ∀ k_, w46.heap.size ≤ k_ → (fun k_ => some k_ ≠ (.slice Ao12 t241.length co12 : Value).ownBlock ∧ some k_ ≠ (.slice Ao13 t244.length co13 : Value).ownBlock ∧ some k_ ≠ (.slice Ao18 t253.length co18 : Value).ownBlock ∧ some k_ ≠ (.slice Ao19 t256.length co19 : Value).ownBlock ∧ some k_ ≠ (.slice Ao43 t265.length co43 : Value).ownBlock ∧ some k_ ≠ (.slice Ao44 t268.length co44 : Value).ownBlock ∧ k_ ≠ gb249 ∧ k_ ≠ gb261 ∧ k_ ≠ gb273) k_ from fun k_ hk => ⟨Kd.fresh' (Kd.R_lt (qR HO_250003.out)) k_ hk, Kd.fresh' (Kd.N_lt (qN HO_250004.out)) k_ hk, Kd.fresh' (Kd.R_lt (qR HO_262003.out)) k_ hk, Kd.fresh' (Kd.N_lt (qN HO_262004.out)) k_ hk, Kd.fresh' (Kd.R_lt (qR HO267.out)) k_ hk, Kd.fresh' (Kd.N_lt (qN HO270.out)) k_ hk, Kd.freshB (g := gb249) (o := .cells #[.int .i64 t238, .string t239, .int .i64 t240, .slice Ao12 t241.length co12, .slice Ao13 t244.length co13] 28 (0, 0)) (qK BK249.out) k_ hk, Kd.freshB (g := gb261) (o := .cells #[.int .i64 t250, .string t251, .int .i64 t252, .slice Ao18 t253.length co18, .slice Ao19 t256.length co19] 28 (0, 0)) (qK BK261.out) k_ hk, Kd.freshB (g := gb273) (o := .cells #[.int .i64 t262, .string t263, .int .i64 t264, .slice Ao43 t265.length co43, .slice Ao44 t268.length co44] 28 (0, 0)) (qK BK273.out) k_ hk⟩) _ (Nat.le_refl _)) (Below.refl _ _) (Nat.le_refl _) (by simp) ?_; (case hd => rfl); (case hg => rfl); (case hr => first | (go_simp; done) | (go_simp; rfl)); (case hp => exact (Reps.none _ _))
            intro v275 w47 ho48 hb hg_ hnew_
            clear hg_ hnew_
            (first | rw [← Ny274.out] at ho48 | (simp only [Int.reduceToNat] at ho48; rw [← Ny274.out] at ho48))
            have n0_ := qM (Kd.R_below (qR HO_250003.out) hb)
            have n1_ := qM (Kd.N_elder' (qN HO_250004.out) (Kd.N_base ho48) hb)
            have n2_ := qM (Kd.R_below (qR HO_262003.out) hb)
            have n3_ := qM (Kd.N_elder' (qN HO_262004.out) (Kd.N_base ho48) hb)
            have n4_ := qM (Kd.R_below (qR HO267.out) hb)
            have n5_ := qM (Kd.N_elder' (qN HO270.out) (Kd.N_base ho48) hb)
            have n6_ := qM (Kd.N_lower ho48 (below_size (by repeat (first | (with_reducible first | exact HB.out | apply below_alloc | apply pw_below_drewN | apply below_drew1 | refine below_set ?_ GE249.out | refine below_set ?_ GE261.out | refine below_set ?_ GE273.out) | exact HB.out))))
            have n7_ := qM (blk_below (g := gb249) (o := .cells #[.int .i64 t238, .string t239, .int .i64 t240, .slice Ao12 t241.length co12, .slice Ao13 t244.length co13] 28 (0, 0)) (qK BK249.out) hb)
            have n8_ := qM (blk_below (g := gb261) (o := .cells #[.int .i64 t250, .string t251, .int .i64 t252, .slice Ao18 t253.length co18, .slice Ao19 t256.length co19] 28 (0, 0)) (qK BK261.out) hb)
            have n9_ := qM (blk_below (g := gb273) (o := .cells #[.int .i64 t262, .string t263, .int .i64 t264, .slice Ao43 t265.length co43, .slice Ao44 t268.length co44] 28 (0, 0)) (qK BK273.out) hb)
            have n10_ := qM (below_step (by repeat (first | (with_reducible first | exact HB.out | apply below_alloc | apply pw_below_drewN | apply below_drew1 | refine below_set ?_ GE249.out | refine below_set ?_ GE261.out | refine below_set ?_ GE273.out) | exact HB.out)) hb)
            clear HO_250003; clear HO_250004; clear HO_262003; clear HO_262004; clear HO267; clear HO270; clear BK249; clear BK261; clear BK273; clear HB
            have HO_250003 := n0_
            have HO_250004 := n1_
            have HO_262003 := n2_
            have HO_262004 := n3_
            have HO267 := n4_
            have HO270 := n5_
            have HO276 := n6_
            have BK249 := n7_
            have BK261 := n8_
            have BK273 := n9_
            have HB := n10_
            clear n0_ n1_ n2_ n3_ n4_ n5_ n6_ n7_ n8_ n9_ n10_; clear hb ho48
            refine hK.out _ _ ⟨(blk_cell BK249.out 0).trans rfl, (blk_cell BK249.out 1).trans rfl, (blk_cell BK249.out 2).trans rfl, (blk_cell BK249.out 3).trans rfl, (blk_cell BK249.out 4).trans rfl, (blk_cell BK261.out 0).trans rfl, (blk_cell BK261.out 1).trans rfl, (blk_cell BK261.out 2).trans rfl, (blk_cell BK261.out 3).trans rfl, (blk_cell BK261.out 4).trans rfl⟩ (fun hHeld => ?_)
            clear hK K
            refine norm_ (a' := ?_) ?_ ?_
            rotate_left
            ·
             show Act.put _ (some 54) _ = _
             simp only [Act.put, List.setIfInBounds_toArray, List.set_cons_zero, List.set_cons_succ, i64_w, i32_w]
             rfl
            refine two_ (i := 3) (j := 8) (Ni := some 57) (Nj := some 14) #[true, true, true, true, true, true, false, false, false, false] #[true, true, true, false, true, true, false, false, true, false] rfl rfl rfl rfl (two_of HT_.out (by kernel_rfl)) (by decide) (by decide) (fun K hK => ?_) (fun K hK => ?_)
            ·
             skip
             refine Kd.N_append_rows_step k28 (w0 := w) w.heap.size (by rfl) (.tmp 54) (.tmp 56) 26 28 (.agg #[(.int .i64 0), (.string ⟨#[]⟩), (.int .i64 0), (.slice none 0 0), (.slice none 0 0)]) 80 rfl Tryd.underlying26 info28 rfl (by decide) (by omega) v275 y274 t244 _ _ _ (fun k_ => some k_ ≠ (.slice Ao12 t241.length co12 : Value).ownBlock ∧ some k_ ≠ (.slice Ao18 t253.length co18 : Value).ownBlock ∧ some k_ ≠ (.slice Ao19 t256.length co19 : Value).ownBlock ∧ some k_ ≠ (.slice Ao43 t265.length co43 : Value).ownBlock ∧ some k_ ≠ (.slice Ao44 t268.length co44 : Value).ownBlock ∧ k_ ≠ gb249 ∧ k_ ≠ gb261 ∧ k_ ≠ gb273) (fun k_ => ((fun k_ => some k_ ≠ (.slice Ao12 t241.length co12 : Value).ownBlock ∧ some k_ ≠ (.slice Ao18 t253.length co18 : Value).ownBlock ∧ some k_ ≠ (.slice Ao19 t256.length co19 : Value).ownBlock ∧ some k_ ≠ (.slice Ao43 t265.length co43 : Value).ownBlock ∧ some k_ ≠ (.slice Ao44 t268.length co44 : Value).ownBlock ∧ k_ ≠ gb249 ∧ k_ ≠ gb261 ∧ k_ ≠ gb273)) k_ ∧ some k_ ≠ (v275 : Value).ownBlock) rfl rfl ?aO ?aR (fun _ hk => hk) ?aF ?aB ?aS ?aL ?_
             (case aR => exact (by skip; exact Kd.N_F (Kd.N_mono (ok' := (fun k_ => ((fun k_ => some k_ ≠ (.slice Ao12 t241.length co12 : Value).ownBlock ∧ some k_ ≠ (.slice Ao18 t253.length co18 : Value).ownBlock ∧ some k_ ≠ (.slice Ao19 t256.length co19 : Value).ownBlock ∧ some k_ ≠ (.slice Ao43 t265.length co43 : Value).ownBlock ∧ some k_ ≠ (.slice Ao44 t268.length co44 : Value).ownBlock ∧ k_ ≠ gb249 ∧ k_ ≠ gb261 ∧ k_ ≠ gb273)) k_ ∧ some k_ ≠ (v275 : Value).ownBlock)) (HO_250004.out) (fun k_ hk => ⟨⟨hk.1.1, ⟨hk.1.2.1, ⟨hk.1.2.2.1, ⟨hk.1.2.2.2.1, ⟨hk.1.2.2.2.2.1, ⟨hk.1.2.2.2.2.2.1, ⟨hk.1.2.2.2.2.2.2.1, hk.1.2.2.2.2.2.2.2⟩⟩⟩⟩⟩⟩⟩, hk.2⟩))))
             (case aB => exact (by repeat (first | (with_reducible first | exact HB.out | apply below_alloc | apply pw_below_drewN | apply below_drew1 | refine below_set ?_ GE249.out | refine below_set ?_ GE261.out | refine below_set ?_ GE273.out) | exact HB.out)))
             (case aF => exact (fun k_ hk => ⟨Kd.fresh' (Kd.R_lt (qR HO_250003.out)) k_ hk, Kd.fresh' (Kd.R_lt (qR HO_262003.out)) k_ hk, Kd.fresh' (Kd.N_lt (qN HO_262004.out)) k_ hk, Kd.fresh' (Kd.R_lt (qR HO267.out)) k_ hk, Kd.fresh' (Kd.N_lt (qN HO270.out)) k_ hk, Kd.freshB (g := gb249) (o := .cells #[.int .i64 t238, .string t239, .int .i64 t240, .slice Ao12 t241.length co12, .slice Ao13 t244.length co13] 28 (0, 0)) (qK BK249.out) k_ hk, Kd.freshB (g := gb261) (o := .cells #[.int .i64 t250, .string t251, .int .i64 t252, .slice Ao18 t253.length co18, .slice Ao19 t256.length co19] 28 (0, 0)) (qK BK261.out) k_ hk, Kd.freshB (g := gb273) (o := .cells #[.int .i64 t262, .string t263, .int .i64 t264, .slice Ao43 t265.length co43, .slice Ao44 t268.length co44] 28 (0, 0)) (qK BK273.out) k_ hk⟩))
             (case aO => exact (by (with_reducible repeat (first | apply Kd.N_alloc | apply Kd.N_drewN | apply Kd.N_drew)); exact Kd.N_mono HO276.out (fun _ hk => ⟨hk.1, ⟨hk.2.2.1, ⟨hk.2.2.2.1, ⟨hk.2.2.2.2.1, ⟨hk.2.2.2.2.2.1, ⟨hk.2.2.2.2.2.2.1, ⟨hk.2.2.2.2.2.2.2.1, hk.2.2.2.2.2.2.2.2⟩⟩⟩⟩⟩⟩⟩)))
             (case aS => exact (below_size (by repeat (first | (with_reducible first | exact HB.out | apply below_alloc | apply pw_below_drewN | apply below_drew1 | refine below_set ?_ GE249.out | refine below_set ?_ GE261.out | refine below_set ?_ GE273.out) | exact HB.out))))
             (case aL => have := LMc34.out; omega)
             intro v278 w49 ho hb hg hat
             rw [← Ny277.out] at ho
             have n0_ := qM (Kd.R_over' (qR HO_250003.out) (Kd.N_typed (qN HO276.out)) (by decide) hg)
             have n1_ := qM (Kd.N_afterv (ok := (fun k_ => some k_ ≠ (.slice Ao12 t241.length co12 : Value).ownBlock ∧ some k_ ≠ (.slice Ao18 t253.length co18 : Value).ownBlock ∧ some k_ ≠ (.slice Ao19 t256.length co19 : Value).ownBlock ∧ some k_ ≠ (.slice Ao43 t265.length co43 : Value).ownBlock ∧ some k_ ≠ (.slice Ao44 t268.length co44 : Value).ownBlock ∧ k_ ≠ gb249 ∧ k_ ≠ gb261 ∧ k_ ≠ gb273)) (qN HO_250004.out) hg hat)
             have n2_ := qM (Kd.R_over' (qR HO_262003.out) (Kd.N_typed (qN HO276.out)) (by decide) hg)
             have n3_ := qM (Kd.N_afterv (ok := (fun k_ => some k_ ≠ (.slice Ao12 t241.length co12 : Value).ownBlock ∧ some k_ ≠ (.slice Ao13 t244.length co13 : Value).ownBlock ∧ some k_ ≠ (.slice Ao18 t253.length co18 : Value).ownBlock ∧ some k_ ≠ (.slice Ao43 t265.length co43 : Value).ownBlock ∧ some k_ ≠ (.slice Ao44 t268.length co44 : Value).ownBlock ∧ k_ ≠ gb249 ∧ k_ ≠ gb261 ∧ k_ ≠ gb273)) (qN HO_262004.out) hg hat)
             have n4_ := qM (blk_grown (g := gb249) (o := .cells #[.int .i64 t238, .string t239, .int .i64 t240, .slice Ao12 t241.length co12, .slice Ao13 t244.length co13] 28 (0, 0)) (qK BK249.out) hg (Kd.N_away HO276.out (fun _ hk => hk.2.2.2.2.2.2.1)))
             have n5_ := qM (blk_grown (g := gb261) (o := .cells #[.int .i64 t250, .string t251, .int .i64 t252, .slice Ao18 t253.length co18, .slice Ao19 t256.length co19] 28 (0, 0)) (qK BK261.out) hg (Kd.N_away HO276.out (fun _ hk => hk.2.2.2.2.2.2.2.1)))
             have n6_ := qM (Kd.R_over' (qR HO267.out) (Kd.N_typed (qN HO276.out)) (by decide) hg)
             have n7_ := qM (Kd.N_afterv (ok := (fun k_ => some k_ ≠ (.slice Ao12 t241.length co12 : Value).ownBlock ∧ some k_ ≠ (.slice Ao13 t244.length co13 : Value).ownBlock ∧ some k_ ≠ (.slice Ao18 t253.length co18 : Value).ownBlock ∧ some k_ ≠ (.slice Ao19 t256.length co19 : Value).ownBlock ∧ some k_ ≠ (.slice Ao43 t265.length co43 : Value).ownBlock ∧ k_ ≠ gb249 ∧ k_ ≠ gb261 ∧ k_ ≠ gb273)) (qN HO270.out) hg hat)
             have n8_ := qM (blk_grown (g := gb273) (o := .cells #[.int .i64 t262, .string t263, .int .i64 t264, .slice Ao43 t265.length co43, .slice Ao44 t268.length co44] 28 (0, 0)) (qK BK273.out) hg (Kd.N_away HO276.out (fun _ hk => hk.2.2.2.2.2.2.2.2)))
             have n9_ := qM (hb)
             have n10_ := qM (ho)
             clear HO_250003; clear HO_250004; clear HO_262003; clear HO_262004; clear BK249; clear BK261; clear HO267; clear HO270; clear BK273; clear HB; clear HO276
             have HO_250003 := n0_
             have HO_250004 := n1_
             have HO_262003 := n2_
             have HO_262004 := n3_
             have BK249 := n4_
             have BK261 := n5_
             have HO267 := n6_
             have HO270 := n7_
             have BK273 := n8_
             have HB := n9_
             have HO279 := n10_
             clear n0_ n1_ n2_ n3_ n4_ n5_ n6_ n7_ n8_ n9_ n10_; clear ho hb hg hat
             refine hK.out _ _ ⟨(blk_cell BK249.out 0).trans rfl, (blk_cell BK249.out 1).trans rfl, (blk_cell BK249.out 2).trans rfl, (blk_cell BK249.out 3).trans rfl, (blk_cell BK249.out 4).trans rfl, (blk_cell BK261.out 0).trans rfl, (blk_cell BK261.out 1).trans rfl, (blk_cell BK261.out 2).trans rfl, (blk_cell BK261.out 3).trans rfl, (blk_cell BK261.out 4).trans rfl⟩ (fun hHeld => ?_)
             clear hK K
             refine norm_ (a' := ?_) ?_ ?_
             rotate_left
             ·
              show Act.put _ (some 57) _ = _
              simp only [Act.put, List.setIfInBounds_toArray, List.set_cons_zero, List.set_cons_succ, i64_w, i32_w]
              rfl
             refine two_ (i := 6) (j := 8) (Ni := some 60) (Nj := some 14) #[true, true, true, true, true, true, true, false, false, false] #[true, true, true, true, true, true, false, false, true, false] rfl rfl rfl rfl (two_of HT_.out (by kernel_rfl)) (by decide) (by decide) (fun K hK => ?_) (fun K hK => ?_)
             ·
              skip
              refine Kd.N_append_rows_step k28 (w0 := w) w.heap.size (by rfl) (.tmp 57) (.tmp 59) 26 28 (.agg #[(.int .i64 0), (.string ⟨#[]⟩), (.int .i64 0), (.slice none 0 0), (.slice none 0 0)]) 80 rfl Tryd.underlying26 info28 rfl (by decide) (by omega) v278 y277 t256 _ _ _ (fun k_ => some k_ ≠ (.slice Ao12 t241.length co12 : Value).ownBlock ∧ some k_ ≠ (.slice Ao18 t253.length co18 : Value).ownBlock ∧ some k_ ≠ (.slice Ao43 t265.length co43 : Value).ownBlock ∧ some k_ ≠ (.slice Ao44 t268.length co44 : Value).ownBlock ∧ k_ ≠ gb249 ∧ k_ ≠ gb261 ∧ k_ ≠ gb273) (fun k_ => ((fun k_ => some k_ ≠ (.slice Ao12 t241.length co12 : Value).ownBlock ∧ some k_ ≠ (.slice Ao18 t253.length co18 : Value).ownBlock ∧ some k_ ≠ (.slice Ao43 t265.length co43 : Value).ownBlock ∧ some k_ ≠ (.slice Ao44 t268.length co44 : Value).ownBlock ∧ k_ ≠ gb249 ∧ k_ ≠ gb261 ∧ k_ ≠ gb273)) k_ ∧ some k_ ≠ (v278 : Value).ownBlock) rfl rfl ?aO ?aR (fun _ hk => hk) ?aF ?aB ?aS ?aL ?_
              (case aR => exact (by skip; exact Kd.N_F (Kd.N_mono (ok' := (fun k_ => ((fun k_ => some k_ ≠ (.slice Ao12 t241.length co12 : Value).ownBlock ∧ some k_ ≠ (.slice Ao18 t253.length co18 : Value).ownBlock ∧ some k_ ≠ (.slice Ao43 t265.length co43 : Value).ownBlock ∧ some k_ ≠ (.slice Ao44 t268.length co44 : Value).ownBlock ∧ k_ ≠ gb249 ∧ k_ ≠ gb261 ∧ k_ ≠ gb273)) k_ ∧ some k_ ≠ (v278 : Value).ownBlock)) (HO_262004.out) (fun k_ hk => ⟨⟨hk.1.1, ⟨hk.1.2.2.1, ⟨hk.1.2.2.2.1, ⟨hk.1.2.2.2.2.1, ⟨hk.1.2.2.2.2.2.1, ⟨hk.1.2.2.2.2.2.2.1, hk.1.2.2.2.2.2.2.2⟩⟩⟩⟩⟩⟩, hk.2⟩))))
              (case aB => exact (by repeat (first | (with_reducible first | exact HB.out | apply below_alloc | apply pw_below_drewN | apply below_drew1 | refine below_set ?_ GE249.out | refine below_set ?_ GE261.out | refine below_set ?_ GE273.out) | exact HB.out)))
              (case aF => exact (fun k_ hk => ⟨Kd.fresh' (Kd.R_lt (qR HO_250003.out)) k_ hk, Kd.fresh' (Kd.R_lt (qR HO_262003.out)) k_ hk, Kd.fresh' (Kd.R_lt (qR HO267.out)) k_ hk, Kd.fresh' (Kd.N_lt (qN HO270.out)) k_ hk, Kd.freshB (g := gb249) (o := .cells #[.int .i64 t238, .string t239, .int .i64 t240, .slice Ao12 t241.length co12, .slice Ao13 t244.length co13] 28 (0, 0)) (qK BK249.out) k_ hk, Kd.freshB (g := gb261) (o := .cells #[.int .i64 t250, .string t251, .int .i64 t252, .slice Ao18 t253.length co18, .slice Ao19 t256.length co19] 28 (0, 0)) (qK BK261.out) k_ hk, Kd.freshB (g := gb273) (o := .cells #[.int .i64 t262, .string t263, .int .i64 t264, .slice Ao43 t265.length co43, .slice Ao44 t268.length co44] 28 (0, 0)) (qK BK273.out) k_ hk⟩))
              (case aO => exact (by (with_reducible repeat (first | apply Kd.N_alloc | apply Kd.N_drewN | apply Kd.N_drew)); exact Kd.N_mono HO279.out (fun _ hk => ⟨hk.1, ⟨hk.2.1, ⟨hk.2.2.2.1, ⟨hk.2.2.2.2.1, ⟨hk.2.2.2.2.2.1, ⟨hk.2.2.2.2.2.2.1, hk.2.2.2.2.2.2.2⟩⟩⟩⟩⟩⟩)))
              (case aS => exact (below_size (by repeat (first | (with_reducible first | exact HB.out | apply below_alloc | apply pw_below_drewN | apply below_drew1 | refine below_set ?_ GE249.out | refine below_set ?_ GE261.out | refine below_set ?_ GE273.out) | exact HB.out))))
              (case aL => have := LMc35.out; omega)
              intro v281 w50 ho hb hg hat
              rw [← Ny280.out] at ho
              have n0_ := qM (Kd.R_over' (qR HO_250003.out) (Kd.N_typed (qN HO279.out)) (by decide) hg)
              have n1_ := qM (Kd.N_afterv (ok := (fun k_ => some k_ ≠ (.slice Ao12 t241.length co12 : Value).ownBlock ∧ some k_ ≠ (.slice Ao18 t253.length co18 : Value).ownBlock ∧ some k_ ≠ (.slice Ao19 t256.length co19 : Value).ownBlock ∧ some k_ ≠ (.slice Ao43 t265.length co43 : Value).ownBlock ∧ some k_ ≠ (.slice Ao44 t268.length co44 : Value).ownBlock ∧ k_ ≠ gb249 ∧ k_ ≠ gb261 ∧ k_ ≠ gb273)) (qN HO_250004.out) hg hat)
              have n2_ := qM (Kd.R_over' (qR HO_262003.out) (Kd.N_typed (qN HO279.out)) (by decide) hg)
              have n3_ := qM (Kd.N_afterv (ok := (fun k_ => some k_ ≠ (.slice Ao12 t241.length co12 : Value).ownBlock ∧ some k_ ≠ (.slice Ao13 t244.length co13 : Value).ownBlock ∧ some k_ ≠ (.slice Ao18 t253.length co18 : Value).ownBlock ∧ some k_ ≠ (.slice Ao43 t265.length co43 : Value).ownBlock ∧ some k_ ≠ (.slice Ao44 t268.length co44 : Value).ownBlock ∧ k_ ≠ gb249 ∧ k_ ≠ gb261 ∧ k_ ≠ gb273)) (qN HO_262004.out) hg hat)
              have n4_ := qM (blk_grown (g := gb249) (o := .cells #[.int .i64 t238, .string t239, .int .i64 t240, .slice Ao12 t241.length co12, .slice Ao13 t244.length co13] 28 (0, 0)) (qK BK249.out) hg (Kd.N_away HO279.out (fun _ hk => hk.2.2.2.2.2.1)))
              have n5_ := qM (blk_grown (g := gb261) (o := .cells #[.int .i64 t250, .string t251, .int .i64 t252, .slice Ao18 t253.length co18, .slice Ao19 t256.length co19] 28 (0, 0)) (qK BK261.out) hg (Kd.N_away HO279.out (fun _ hk => hk.2.2.2.2.2.2.1)))
              have n6_ := qM (Kd.R_over' (qR HO267.out) (Kd.N_typed (qN HO279.out)) (by decide) hg)
              have n7_ := qM (Kd.N_afterv (ok := (fun k_ => some k_ ≠ (.slice Ao12 t241.length co12 : Value).ownBlock ∧ some k_ ≠ (.slice Ao13 t244.length co13 : Value).ownBlock ∧ some k_ ≠ (.slice Ao18 t253.length co18 : Value).ownBlock ∧ some k_ ≠ (.slice Ao19 t256.length co19 : Value).ownBlock ∧ some k_ ≠ (.slice Ao43 t265.length co43 : Value).ownBlock ∧ k_ ≠ gb249 ∧ k_ ≠ gb261 ∧ k_ ≠ gb273)) (qN HO270.out) hg hat)
              have n8_ := qM (blk_grown (g := gb273) (o := .cells #[.int .i64 t262, .string t263, .int .i64 t264, .slice Ao43 t265.length co43, .slice Ao44 t268.length co44] 28 (0, 0)) (qK BK273.out) hg (Kd.N_away HO279.out (fun _ hk => hk.2.2.2.2.2.2.2)))
              have n9_ := qM (hb)
              have n10_ := qM (ho)
              clear HO_250003; clear HO_250004; clear HO_262003; clear HO_262004; clear BK249; clear BK261; clear HO267; clear HO270; clear BK273; clear HB; clear HO279
              have HO_250003 := n0_
              have HO_250004 := n1_
              have HO_262003 := n2_
              have HO_262004 := n3_
              have BK249 := n4_
              have BK261 := n5_
              have HO267 := n6_
              have HO270 := n7_
              have BK273 := n8_
              have HB := n9_
              have HO282 := n10_
              clear n0_ n1_ n2_ n3_ n4_ n5_ n6_ n7_ n8_ n9_ n10_; clear ho hb hg hat
              obtain ⟨Ao51, co51, eo51⟩ := Kd.N_slice HO282.out
              (first | subst eo51 | (injection eo51 with f1_ f2_ f3_; have f4_ := f1_.symm; have f5_ := f3_.symm; clear f1_ f2_ f3_; subst f4_; subst f5_))
              refine hK.out _ _ ⟨(blk_cell BK249.out 0).trans rfl, (blk_cell BK249.out 1).trans rfl, (blk_cell BK249.out 2).trans rfl, (blk_cell BK249.out 3).trans rfl, (blk_cell BK249.out 4).trans rfl, (blk_cell BK261.out 0).trans rfl, (blk_cell BK261.out 1).trans rfl, (blk_cell BK261.out 2).trans rfl, (blk_cell BK261.out 3).trans rfl, (blk_cell BK261.out 4).trans rfl⟩ (fun hHeld => ?_)
              clear hK K
              refine norm_ (a' := ?_) ?_ ?_
              rotate_left
              ·
               show Act.put _ (some 60) _ = _
               simp only [Act.put, List.setIfInBounds_toArray, List.set_cons_zero, List.set_cons_succ, i64_w, i32_w]
               rfl
              refine pure_ (i := 7) (N := some 61) (v := ?_) (a' := ?_) #[true, true, true, true, true, true, true, true, false, false] rfl rfl (any_of HT_.out (by kernel_rfl)) (fun _ _ _ h => h) (Or.inl ⟨by rfl, ?_⟩) ?_ ?_
              rotate_left
              · intro w'; go_simp; with_reducible rfl
              rotate_left
              ·
               simp only [Act.put, List.setIfInBounds_toArray, List.set_cons_zero, List.set_cons_succ, i64_w, i32_w]
               rfl
              refine one_ (i := 8) (N := some 14) #[true, true, true, true, true, true, true, true, true, false] rfl rfl (one_of HT_.out (by kernel_rfl)) (by decide) (fun K hK => ?_)
              refine box_step ?hg (N := 14) ?hd (cs := #[.int .i64 0, .string (⟨#[]⟩ : ByteArray), .int .i64 0, .slice none 0 0, .slice none 0 0]) (t := 28) ?hr ?_; (case hd => rfl); (case hg => rfl); (case hr => first | (go_simp; done) | (go_simp; rfl))
              intro gb283 hg w52 hbox hb
              have n0_ := qM (Kd.R_below (qR HO_250003.out) hb)
              have n1_ := qM (Kd.N_below (Kd.N_elderB (qN HO_250004.out) gb283 (Nat.le_of_eq hg.symm)) hb)
              have n2_ := qM (Kd.R_below (qR HO_262003.out) hb)
              have n3_ := qM (Kd.N_below (Kd.N_elderB (qN HO_262004.out) gb283 (Nat.le_of_eq hg.symm)) hb)
              have n4_ := qM (Kd.R_below (qR HO267.out) hb)
              have n5_ := qM (Kd.N_below (Kd.N_elderB (qN HO270.out) gb283 (Nat.le_of_eq hg.symm)) hb)
              have n6_ := qM (Kd.N_below (Kd.N_elderB (qN HO282.out) gb283 (Nat.le_of_eq hg.symm)) hb)
              have n7_ := qM (blk_below (g := gb249) (o := .cells #[.int .i64 t238, .string t239, .int .i64 t240, .slice Ao12 t241.length co12, .slice Ao13 t244.length co13] 28 (0, 0)) (qK BK249.out) hb)
              have n8_ := qM (blk_below (g := gb261) (o := .cells #[.int .i64 t250, .string t251, .int .i64 t252, .slice Ao18 t253.length co18, .slice Ao19 t256.length co19] 28 (0, 0)) (qK BK261.out) hb)
              have n9_ := qM (blk_below (g := gb273) (o := .cells #[.int .i64 t262, .string t263, .int .i64 t264, .slice Ao43 t265.length co43, .slice Ao44 t268.length co44] 28 (0, 0)) (qK BK273.out) hb)
              have n10_ := qM (below_step (by repeat (first | (with_reducible first | exact HB.out | apply below_alloc | apply pw_below_drewN | apply below_drew1 | refine below_set ?_ GE249.out | refine below_set ?_ GE261.out | refine below_set ?_ GE273.out) | exact HB.out)) hb)
              have n11_ := qM (hbox)
              have n12_ := qM ((by rw [hg]; exact (below_size (by repeat (first | (with_reducible first | exact HB.out | apply below_alloc | apply pw_below_drewN | apply below_drew1 | refine below_set ?_ GE249.out | refine below_set ?_ GE261.out | refine below_set ?_ GE273.out) | exact HB.out))) : w.heap.size ≤ gb283))
              have n13_ := qM ((by rw [hg]; exact (below_size (by repeat (first | (with_reducible first | exact HB.out | apply below_alloc | apply pw_below_drewN | apply below_drew1 | refine below_set ?_ GE249.out | refine below_set ?_ GE261.out | refine below_set ?_ GE273.out) | exact HB.out))) : w.heap.size ≤ gb283))
              have n14_ := qM ((by rw [hg]; exact Nat.ne_of_lt (blk_lt (g := gb249) (o := .cells #[.int .i64 t238, .string t239, .int .i64 t240, .slice Ao12 t241.length co12, .slice Ao13 t244.length co13] 28 (0, 0)) (qK BK249.out)) : gb249 ≠ gb283))
              have n15_ := qM ((by rw [hg]; exact Nat.ne_of_gt (blk_lt (g := gb249) (o := .cells #[.int .i64 t238, .string t239, .int .i64 t240, .slice Ao12 t241.length co12, .slice Ao13 t244.length co13] 28 (0, 0)) (qK BK249.out)) : gb283 ≠ gb249))
              have n16_ := qM ((by rw [hg]; exact Nat.ne_of_lt (blk_lt (g := gb261) (o := .cells #[.int .i64 t250, .string t251, .int .i64 t252, .slice Ao18 t253.length co18, .slice Ao19 t256.length co19] 28 (0, 0)) (qK BK261.out)) : gb261 ≠ gb283))
              have n17_ := qM ((by rw [hg]; exact Nat.ne_of_gt (blk_lt (g := gb261) (o := .cells #[.int .i64 t250, .string t251, .int .i64 t252, .slice Ao18 t253.length co18, .slice Ao19 t256.length co19] 28 (0, 0)) (qK BK261.out)) : gb283 ≠ gb261))
              have n18_ := qM ((by rw [hg]; exact Nat.ne_of_lt (blk_lt (g := gb273) (o := .cells #[.int .i64 t262, .string t263, .int .i64 t264, .slice Ao43 t265.length co43, .slice Ao44 t268.length co44] 28 (0, 0)) (qK BK273.out)) : gb273 ≠ gb283))
              have n19_ := qM ((by rw [hg]; exact Nat.ne_of_gt (blk_lt (g := gb273) (o := .cells #[.int .i64 t262, .string t263, .int .i64 t264, .slice Ao43 t265.length co43, .slice Ao44 t268.length co44] 28 (0, 0)) (qK BK273.out)) : gb283 ≠ gb273))
              clear HO_250003; clear HO_250004; clear HO_262003; clear HO_262004; clear HO267; clear HO270; clear HO282; clear BK249; clear BK261; clear BK273; clear HB
              have HO_250003 := n0_
              have HO_250004 := n1_
              have HO_262003 := n2_
              have HO_262004 := n3_
              have HO267 := n4_
              have HO270 := n5_
              have HO282 := n6_
              have BK249 := n7_
              have BK261 := n8_
              have BK273 := n9_
              have HB := n10_
              have BK283 := n11_
              have GW283 := n12_
              have GE283 := n13_
              have NB249_283 := n14_
              have NB283_249 := n15_
              have NB261_283 := n16_
              have NB283_261 := n17_
              have NB273_283 := n18_
              have NB283_273 := n19_
              clear n0_ n1_ n2_ n3_ n4_ n5_ n6_ n7_ n8_ n9_ n10_ n11_ n12_ n13_ n14_ n15_ n16_ n17_ n18_ n19_; clear hb hbox hg
              refine hK.out _ _ ⟨(blk_cell BK249.out 0).trans rfl, (blk_cell BK249.out 1).trans rfl, (blk_cell BK249.out 2).trans rfl, (blk_cell BK249.out 3).trans rfl, (blk_cell BK249.out 4).trans rfl, (blk_cell BK261.out 0).trans rfl, (blk_cell BK261.out 1).trans rfl, (blk_cell BK261.out 2).trans rfl, (blk_cell BK261.out 3).trans rfl, (blk_cell BK261.out 4).trans rfl⟩ (fun hHeld => ?_)
              clear hK K
              refine norm_ (a' := ?_) ?_ ?_
              rotate_left
              ·
               show Act.put _ (some 14) _ = _
               simp only [Act.put, List.setIfInBounds_toArray, List.set_cons_zero, List.set_cons_succ, i64_w, i32_w]
               rfl
              exact norm_ (by simp only [putAll, Act.put, List.setIfInBounds_toArray, List.set_cons_zero, List.set_cons_succ]) (hCont (v275, v278, .slice Ao51 y280.length co51, gb283) _ ⟨hHeld, (qR HO267.out), (by (with_reducible repeat (first | apply Kd.N_alloc | apply Kd.N_drewN | apply Kd.N_drew)); exact Kd.N_mono HO270.out (fun _ hk => ⟨hk.1.1.2.2.2.2.1, ⟨hk.1.2, ⟨hk.1.1.1, ⟨hk.1.1.2.1, ⟨hk.1.1.2.2.1, ⟨hk.1.1.2.2.2.1, ⟨hk.1.1.2.2.2.2.2.1, ⟨hk.1.1.2.2.2.2.2.2.1, ⟨hk.1.1.2.2.2.2.2.2.2, hk.2⟩⟩⟩⟩⟩⟩⟩⟩⟩)), (by (with_reducible repeat (first | apply Kd.N_alloc | apply Kd.N_drewN | apply Kd.N_drew)); exact Kd.N_mono HO282.out (fun _ hk => ⟨hk.1.2.2.1, ⟨hk.1.2.2.2.1, ⟨hk.1.1, ⟨hk.1.2.1, ⟨hk.1.2.2.2.2.1, ⟨hk.1.2.2.2.2.2.1, ⟨hk.1.2.2.2.2.2.2, hk.2⟩⟩⟩⟩⟩⟩⟩)), (by (with_reducible repeat (first | apply Kd.R_alloc | apply Kd.R_drewN | apply Kd.R_drew)); exact Kd.R_mono HO_250003.out (fun _ hk => ⟨hk.2, hk.1⟩)), (by (with_reducible repeat (first | apply Kd.N_alloc | apply Kd.N_drewN | apply Kd.N_drew)); exact Kd.N_mono HO_250004.out (fun _ hk => ⟨hk.1.1.2.2.2.1, ⟨hk.1.1.2.2.2.2.1, ⟨hk.1.2, ⟨hk.1.1.1, ⟨hk.1.1.2.1, ⟨hk.1.1.2.2.1, ⟨hk.1.1.2.2.2.2.2.1, ⟨hk.1.1.2.2.2.2.2.2.1, ⟨hk.1.1.2.2.2.2.2.2.2, hk.2⟩⟩⟩⟩⟩⟩⟩⟩⟩)), (by (with_reducible repeat (first | apply Kd.R_alloc | apply Kd.R_drewN | apply Kd.R_drew)); exact Kd.R_mono HO_262003.out (fun _ hk => ⟨hk.2, hk.1⟩)), (by (with_reducible repeat (first | apply Kd.N_alloc | apply Kd.N_drewN | apply Kd.N_drew)); exact Kd.N_mono HO_262004.out (fun _ hk => ⟨hk.1.1.2.2.2.1, ⟨hk.1.1.2.2.2.2.1, ⟨hk.1.2, ⟨hk.1.1.1, ⟨hk.1.1.2.1, ⟨hk.1.1.2.2.1, ⟨hk.1.1.2.2.2.2.2.1, ⟨hk.1.1.2.2.2.2.2.2.1, ⟨hk.1.1.2.2.2.2.2.2.2, hk.2⟩⟩⟩⟩⟩⟩⟩⟩⟩)), (qK BK249.out), (qK BK261.out), (qK BK273.out), (qK BK283.out), GW283.out, GE283.out, NB249_283.out, NB283_249.out, NB261_283.out, NB283_261.out, NB273_283.out, NB283_273.out, (by repeat (first | (with_reducible first | exact HB.out | apply below_alloc | apply pw_below_drewN | apply below_drew1 | refine below_set ?_ GE249.out | refine below_set ?_ GE261.out | refine below_set ?_ GE273.out | refine below_set ?_ GE283.out) | exact HB.out))⟩)
             ·
              skip
              refine box_step ?hg (N := 14) ?hd (cs := #[.int .i64 0, .string (⟨#[]⟩ : ByteArray), .int .i64 0, .slice none 0 0, .slice none 0 0]) (t := 28) ?hr ?_; (case hd => rfl); (case hg => rfl); (case hr => first | (go_simp; done) | (go_simp; rfl))
              intro gb283 hg w50 hbox hb
              have n0_ := qM (Kd.R_below (qR HO_250003.out) hb)
              have n1_ := qM (Kd.N_below (Kd.N_elderB (qN HO_250004.out) gb283 (Nat.le_of_eq hg.symm)) hb)
              have n2_ := qM (Kd.R_below (qR HO_262003.out) hb)
              have n3_ := qM (Kd.N_below (Kd.N_elderB (qN HO_262004.out) gb283 (Nat.le_of_eq hg.symm)) hb)
              have n4_ := qM (Kd.R_below (qR HO267.out) hb)
              have n5_ := qM (Kd.N_below (Kd.N_elderB (qN HO270.out) gb283 (Nat.le_of_eq hg.symm)) hb)
              have n6_ := qM (Kd.N_below (Kd.N_elderB (qN HO279.out) gb283 (Nat.le_of_eq hg.symm)) hb)
              have n7_ := qM (blk_below (g := gb249) (o := .cells #[.int .i64 t238, .string t239, .int .i64 t240, .slice Ao12 t241.length co12, .slice Ao13 t244.length co13] 28 (0, 0)) (qK BK249.out) hb)
              have n8_ := qM (blk_below (g := gb261) (o := .cells #[.int .i64 t250, .string t251, .int .i64 t252, .slice Ao18 t253.length co18, .slice Ao19 t256.length co19] 28 (0, 0)) (qK BK261.out) hb)
              have n9_ := qM (blk_below (g := gb273) (o := .cells #[.int .i64 t262, .string t263, .int .i64 t264, .slice Ao43 t265.length co43, .slice Ao44 t268.length co44] 28 (0, 0)) (qK BK273.out) hb)
              have n10_ := qM (below_step (by repeat (first | (with_reducible first | exact HB.out | apply below_alloc | apply pw_below_drewN | apply below_drew1 | refine below_set ?_ GE249.out | refine below_set ?_ GE261.out | refine below_set ?_ GE273.out) | exact HB.out)) hb)
              have n11_ := qM (hbox)
              have n12_ := qM ((by rw [hg]; exact (below_size (by repeat (first | (with_reducible first | exact HB.out | apply below_alloc | apply pw_below_drewN | apply below_drew1 | refine below_set ?_ GE249.out | refine below_set ?_ GE261.out | refine below_set ?_ GE273.out) | exact HB.out))) : w.heap.size ≤ gb283))
              have n13_ := qM ((by rw [hg]; exact (below_size (by repeat (first | (with_reducible first | exact HB.out | apply below_alloc | apply pw_below_drewN | apply below_drew1 | refine below_set ?_ GE249.out | refine below_set ?_ GE261.out | refine below_set ?_ GE273.out) | exact HB.out))) : w.heap.size ≤ gb283))
              have n14_ := qM ((by rw [hg]; exact Nat.ne_of_lt (blk_lt (g := gb249) (o := .cells #[.int .i64 t238, .string t239, .int .i64 t240, .slice Ao12 t241.length co12, .slice Ao13 t244.length co13] 28 (0, 0)) (qK BK249.out)) : gb249 ≠ gb283))
              have n15_ := qM ((by rw [hg]; exact Nat.ne_of_gt (blk_lt (g := gb249) (o := .cells #[.int .i64 t238, .string t239, .int .i64 t240, .slice Ao12 t241.length co12, .slice Ao13 t244.length co13] 28 (0, 0)) (qK BK249.out)) : gb283 ≠ gb249))
              have n16_ := qM ((by rw [hg]; exact Nat.ne_of_lt (blk_lt (g := gb261) (o := .cells #[.int .i64 t250, .string t251, .int .i64 t252, .slice Ao18 t253.length co18, .slice Ao19 t256.length co19] 28 (0, 0)) (qK BK261.out)) : gb261 ≠ gb283))
              have n17_ := qM ((by rw [hg]; exact Nat.ne_of_gt (blk_lt (g := gb261) (o := .cells #[.int .i64 t250, .string t251, .int .i64 t252, .slice Ao18 t253.length co18, .slice Ao19 t256.length co19] 28 (0, 0)) (qK BK261.out)) : gb283 ≠ gb261))
              have n18_ := qM ((by rw [hg]; exact Nat.ne_of_lt (blk_lt (g := gb273) (o := .cells #[.int .i64 t262, .string t263, .int .i64 t264, .slice Ao43 t265.length co43, .slice Ao44 t268.length co44] 28 (0, 0)) (qK BK273.out)) : gb273 ≠ gb283))
              have n19_ := qM ((by rw [hg]; exact Nat.ne_of_gt (blk_lt (g := gb273) (o := .cells #[.int .i64 t262, .string t263, .int .i64 t264, .slice Ao43 t265.length co43, .slice Ao44 t268.length co44] 28 (0, 0)) (qK BK273.out)) : gb283 ≠ gb273))
              clear HO_250003; clear HO_250004; clear HO_262003; clear HO_262004; clear HO267; clear HO270; clear HO279; clear BK249; clear BK261; clear BK273; clear HB
              have HO_250003 := n0_
              have HO_250004 := n1_
              have HO_262003 := n2_
              have HO_262004 := n3_
              have HO267 := n4_
              have HO270 := n5_
              have HO279 := n6_
              have BK249 := n7_
              have BK261 := n8_
              have BK273 := n9_
              have HB := n10_
              have BK283 := n11_
              have GW283 := n12_
              have GE283 := n13_
              have NB249_283 := n14_
              have NB283_249 := n15_
              have NB261_283 := n16_
              have NB283_261 := n17_
              have NB273_283 := n18_
              have NB283_273 := n19_
              clear n0_ n1_ n2_ n3_ n4_ n5_ n6_ n7_ n8_ n9_ n10_ n11_ n12_ n13_ n14_ n15_ n16_ n17_ n18_ n19_; clear hb hbox hg
              refine hK.out _ _ ⟨(blk_cell BK249.out 0).trans rfl, (blk_cell BK249.out 1).trans rfl, (blk_cell BK249.out 2).trans rfl, (blk_cell BK249.out 3).trans rfl, (blk_cell BK249.out 4).trans rfl, (blk_cell BK261.out 0).trans rfl, (blk_cell BK261.out 1).trans rfl, (blk_cell BK261.out 2).trans rfl, (blk_cell BK261.out 3).trans rfl, (blk_cell BK261.out 4).trans rfl⟩ (fun hHeld => ?_)
              clear hK K
              refine norm_ (a' := ?_) ?_ ?_
              rotate_left
              ·
               show Act.put _ (some 14) _ = _
               simp only [Act.put, List.setIfInBounds_toArray, List.set_cons_zero, List.set_cons_succ, i64_w, i32_w]
               rfl
              refine one_ (i := 6) (N := some 60) #[true, true, true, true, true, true, true, false, true, false] rfl rfl (one_of HT_.out (by kernel_rfl)) (by decide) (fun K hK => ?_)
              refine Kd.N_append_rows_step k28 (w0 := w) w.heap.size (by rfl) (.tmp 57) (.tmp 59) 26 28 (.agg #[(.int .i64 0), (.string ⟨#[]⟩), (.int .i64 0), (.slice none 0 0), (.slice none 0 0)]) 80 rfl Tryd.underlying26 info28 rfl (by decide) (by omega) v278 y277 t256 _ _ _ (fun k_ => some k_ ≠ (.slice Ao12 t241.length co12 : Value).ownBlock ∧ some k_ ≠ (.slice Ao18 t253.length co18 : Value).ownBlock ∧ some k_ ≠ (.slice Ao43 t265.length co43 : Value).ownBlock ∧ some k_ ≠ (.slice Ao44 t268.length co44 : Value).ownBlock ∧ k_ ≠ gb249 ∧ k_ ≠ gb261 ∧ k_ ≠ gb273 ∧ k_ ≠ gb283) (fun k_ => ((fun k_ => some k_ ≠ (.slice Ao12 t241.length co12 : Value).ownBlock ∧ some k_ ≠ (.slice Ao18 t253.length co18 : Value).ownBlock ∧ some k_ ≠ (.slice Ao43 t265.length co43 : Value).ownBlock ∧ some k_ ≠ (.slice Ao44 t268.length co44 : Value).ownBlock ∧ k_ ≠ gb249 ∧ k_ ≠ gb261 ∧ k_ ≠ gb273 ∧ k_ ≠ gb283)) k_ ∧ some k_ ≠ (v278 : Value).ownBlock) rfl rfl ?aO ?aR (fun _ hk => hk) ?aF ?aB ?aS ?aL ?_
              (case aR => exact (by skip; exact Kd.N_F (Kd.N_mono (ok' := (fun k_ => ((fun k_ => some k_ ≠ (.slice Ao12 t241.length co12 : Value).ownBlock ∧ some k_ ≠ (.slice Ao18 t253.length co18 : Value).ownBlock ∧ some k_ ≠ (.slice Ao43 t265.length co43 : Value).ownBlock ∧ some k_ ≠ (.slice Ao44 t268.length co44 : Value).ownBlock ∧ k_ ≠ gb249 ∧ k_ ≠ gb261 ∧ k_ ≠ gb273 ∧ k_ ≠ gb283)) k_ ∧ some k_ ≠ (v278 : Value).ownBlock)) (HO_262004.out) (fun k_ hk => ⟨⟨hk.1.1.1, ⟨hk.1.1.2.2.1, ⟨hk.1.1.2.2.2.1, ⟨hk.1.1.2.2.2.2.1, ⟨hk.1.1.2.2.2.2.2.1, ⟨hk.1.1.2.2.2.2.2.2.1, ⟨hk.1.1.2.2.2.2.2.2.2, hk.2⟩⟩⟩⟩⟩⟩⟩, hk.1.2⟩))))
              (case aB => exact (by repeat (first | (with_reducible first | exact HB.out | apply below_alloc | apply pw_below_drewN | apply below_drew1 | refine below_set ?_ GE249.out | refine below_set ?_ GE261.out | refine below_set ?_ GE273.out | refine below_set ?_ GE283.out) | exact HB.out)))
              (case aF => exact (fun k_ hk => ⟨Kd.fresh' (Kd.R_lt (qR HO_250003.out)) k_ hk, Kd.fresh' (Kd.R_lt (qR HO_262003.out)) k_ hk, Kd.fresh' (Kd.R_lt (qR HO267.out)) k_ hk, Kd.fresh' (Kd.N_lt (qN HO270.out)) k_ hk, Kd.freshB (g := gb249) (o := .cells #[.int .i64 t238, .string t239, .int .i64 t240, .slice Ao12 t241.length co12, .slice Ao13 t244.length co13] 28 (0, 0)) (qK BK249.out) k_ hk, Kd.freshB (g := gb261) (o := .cells #[.int .i64 t250, .string t251, .int .i64 t252, .slice Ao18 t253.length co18, .slice Ao19 t256.length co19] 28 (0, 0)) (qK BK261.out) k_ hk, Kd.freshB (g := gb273) (o := .cells #[.int .i64 t262, .string t263, .int .i64 t264, .slice Ao43 t265.length co43, .slice Ao44 t268.length co44] 28 (0, 0)) (qK BK273.out) k_ hk, Kd.freshB (g := gb283) (o := .cells #[.int .i64 0, .string (⟨#[]⟩ : ByteArray), .int .i64 0, .slice none 0 0, .slice none 0 0] 28 (0, 0)) (qK BK283.out) k_ hk⟩))
              (case aO => exact (by (with_reducible repeat (first | apply Kd.N_alloc | apply Kd.N_drewN | apply Kd.N_drew)); exact Kd.N_mono HO279.out (fun _ hk => ⟨hk.1.1, ⟨hk.1.2.1, ⟨hk.1.2.2.2.1, ⟨hk.1.2.2.2.2.1, ⟨hk.1.2.2.2.2.2.1, ⟨hk.1.2.2.2.2.2.2.1, ⟨hk.1.2.2.2.2.2.2.2, hk.2⟩⟩⟩⟩⟩⟩⟩)))
              (case aS => exact (below_size (by repeat (first | (with_reducible first | exact HB.out | apply below_alloc | apply pw_below_drewN | apply below_drew1 | refine below_set ?_ GE249.out | refine below_set ?_ GE261.out | refine below_set ?_ GE273.out | refine below_set ?_ GE283.out) | exact HB.out))))
              (case aL => have := LMc35.out; omega)
              intro v281 w51 ho hb hg hat
              rw [← Ny280.out] at ho
              have n0_ := qM (Kd.R_over' (qR HO_250003.out) (Kd.N_typed (qN HO279.out)) (by decide) hg)
              have n1_ := qM (Kd.N_afterv (ok := (fun k_ => some k_ ≠ (.slice Ao12 t241.length co12 : Value).ownBlock ∧ some k_ ≠ (.slice Ao18 t253.length co18 : Value).ownBlock ∧ some k_ ≠ (.slice Ao19 t256.length co19 : Value).ownBlock ∧ some k_ ≠ (.slice Ao43 t265.length co43 : Value).ownBlock ∧ some k_ ≠ (.slice Ao44 t268.length co44 : Value).ownBlock ∧ k_ ≠ gb249 ∧ k_ ≠ gb261 ∧ k_ ≠ gb273 ∧ k_ ≠ gb283)) (by (with_reducible repeat (first | apply Kd.N_alloc | apply Kd.N_drewN | apply Kd.N_drew)); exact Kd.N_mono HO_250004.out (fun _ hk => ⟨⟨hk.1.1.1, ⟨hk.1.1.2.1, ⟨hk.1.1.2.2.1, ⟨hk.1.1.2.2.2.1, ⟨hk.1.1.2.2.2.2.1, ⟨hk.1.1.2.2.2.2.2.1, ⟨hk.1.1.2.2.2.2.2.2.1, ⟨hk.1.1.2.2.2.2.2.2.2, hk.2⟩⟩⟩⟩⟩⟩⟩⟩, hk.1.2⟩)) hg hat)
              have n2_ := qM (Kd.R_over' (qR HO_262003.out) (Kd.N_typed (qN HO279.out)) (by decide) hg)
              have n3_ := qM (Kd.N_afterv (ok := (fun k_ => some k_ ≠ (.slice Ao12 t241.length co12 : Value).ownBlock ∧ some k_ ≠ (.slice Ao13 t244.length co13 : Value).ownBlock ∧ some k_ ≠ (.slice Ao18 t253.length co18 : Value).ownBlock ∧ some k_ ≠ (.slice Ao43 t265.length co43 : Value).ownBlock ∧ some k_ ≠ (.slice Ao44 t268.length co44 : Value).ownBlock ∧ k_ ≠ gb249 ∧ k_ ≠ gb261 ∧ k_ ≠ gb273 ∧ k_ ≠ gb283)) (by (with_reducible repeat (first | apply Kd.N_alloc | apply Kd.N_drewN | apply Kd.N_drew)); exact Kd.N_mono HO_262004.out (fun _ hk => ⟨⟨hk.1.1.1, ⟨hk.1.1.2.1, ⟨hk.1.1.2.2.1, ⟨hk.1.1.2.2.2.1, ⟨hk.1.1.2.2.2.2.1, ⟨hk.1.1.2.2.2.2.2.1, ⟨hk.1.1.2.2.2.2.2.2.1, ⟨hk.1.1.2.2.2.2.2.2.2, hk.2⟩⟩⟩⟩⟩⟩⟩⟩, hk.1.2⟩)) hg hat)
              have n4_ := qM (blk_grown (g := gb249) (o := .cells #[.int .i64 t238, .string t239, .int .i64 t240, .slice Ao12 t241.length co12, .slice Ao13 t244.length co13] 28 (0, 0)) (qK BK249.out) hg (Kd.N_away HO279.out (fun _ hk => hk.1.2.2.2.2.2.1)))
              have n5_ := qM (blk_grown (g := gb261) (o := .cells #[.int .i64 t250, .string t251, .int .i64 t252, .slice Ao18 t253.length co18, .slice Ao19 t256.length co19] 28 (0, 0)) (qK BK261.out) hg (Kd.N_away HO279.out (fun _ hk => hk.1.2.2.2.2.2.2.1)))
              have n6_ := qM (Kd.R_over' (qR HO267.out) (Kd.N_typed (qN HO279.out)) (by decide) hg)
              have n7_ := qM (Kd.N_afterv (ok := (fun k_ => some k_ ≠ (.slice Ao12 t241.length co12 : Value).ownBlock ∧ some k_ ≠ (.slice Ao13 t244.length co13 : Value).ownBlock ∧ some k_ ≠ (.slice Ao18 t253.length co18 : Value).ownBlock ∧ some k_ ≠ (.slice Ao19 t256.length co19 : Value).ownBlock ∧ some k_ ≠ (.slice Ao43 t265.length co43 : Value).ownBlock ∧ k_ ≠ gb249 ∧ k_ ≠ gb261 ∧ k_ ≠ gb273 ∧ k_ ≠ gb283)) (by (with_reducible repeat (first | apply Kd.N_alloc | apply Kd.N_drewN | apply Kd.N_drew)); exact Kd.N_mono HO270.out (fun _ hk => ⟨⟨hk.1.1.1, ⟨hk.1.1.2.1, ⟨hk.1.1.2.2.1, ⟨hk.1.1.2.2.2.1, ⟨hk.1.1.2.2.2.2.1, ⟨hk.1.1.2.2.2.2.2.1, ⟨hk.1.1.2.2.2.2.2.2.1, ⟨hk.1.1.2.2.2.2.2.2.2, hk.2⟩⟩⟩⟩⟩⟩⟩⟩, hk.1.2⟩)) hg hat)
              have n8_ := qM (blk_grown (g := gb273) (o := .cells #[.int .i64 t262, .string t263, .int .i64 t264, .slice Ao43 t265.length co43, .slice Ao44 t268.length co44] 28 (0, 0)) (qK BK273.out) hg (Kd.N_away HO279.out (fun _ hk => hk.1.2.2.2.2.2.2.2)))
              have n9_ := qM (blk_grown (g := gb283) (o := .cells #[.int .i64 0, .string (⟨#[]⟩ : ByteArray), .int .i64 0, .slice none 0 0, .slice none 0 0] 28 (0, 0)) (qK BK283.out) hg (Kd.N_away HO279.out (fun _ hk => hk.2)))
              have n10_ := qM (hb)
              have n11_ := qM (ho)
              clear HO_250003; clear HO_250004; clear HO_262003; clear HO_262004; clear BK249; clear BK261; clear HO267; clear HO270; clear BK273; clear BK283; clear HB; clear HO279
              have HO_250003 := n0_
              have HO_250004 := n1_
              have HO_262003 := n2_
              have HO_262004 := n3_
              have BK249 := n4_
              have BK261 := n5_
              have HO267 := n6_
              have HO270 := n7_
              have BK273 := n8_
              have BK283 := n9_
              have HB := n10_
              have HO282 := n11_
              clear n0_ n1_ n2_ n3_ n4_ n5_ n6_ n7_ n8_ n9_ n10_ n11_; clear ho hb hg hat
              obtain ⟨Ao52, co52, eo52⟩ := Kd.N_slice HO282.out
              (first | subst eo52 | (injection eo52 with f1_ f2_ f3_; have f4_ := f1_.symm; have f5_ := f3_.symm; clear f1_ f2_ f3_; subst f4_; subst f5_))
              refine hK.out _ _ ⟨(blk_cell BK249.out 0).trans rfl, (blk_cell BK249.out 1).trans rfl, (blk_cell BK249.out 2).trans rfl, (blk_cell BK249.out 3).trans rfl, (blk_cell BK249.out 4).trans rfl, (blk_cell BK261.out 0).trans rfl, (blk_cell BK261.out 1).trans rfl, (blk_cell BK261.out 2).trans rfl, (blk_cell BK261.out 3).trans rfl, (blk_cell BK261.out 4).trans rfl⟩ (fun hHeld => ?_)
              clear hK K
              refine norm_ (a' := ?_) ?_ ?_
              rotate_left
              ·
               show Act.put _ (some 60) _ = _
               simp only [Act.put, List.setIfInBounds_toArray, List.set_cons_zero, List.set_cons_succ, i64_w, i32_w]
               rfl
              refine pure_ (i := 7) (N := some 61) (v := ?_) (a' := ?_) #[true, true, true, true, true, true, true, true, true, false] rfl rfl (any_of HT_.out (by kernel_rfl)) (fun _ _ _ h => h) (Or.inl ⟨by rfl, ?_⟩) ?_ ?_
              rotate_left
              · intro w'; go_simp; with_reducible rfl
              rotate_left
              ·
               simp only [Act.put, List.setIfInBounds_toArray, List.set_cons_zero, List.set_cons_succ, i64_w, i32_w]
               rfl
              exact norm_ (by simp only [putAll, Act.put, List.setIfInBounds_toArray, List.set_cons_zero, List.set_cons_succ]) (hCont (v275, v278, .slice Ao52 y280.length co52, gb283) _ ⟨hHeld, (qR HO267.out), (by (with_reducible repeat (first | apply Kd.N_alloc | apply Kd.N_drewN | apply Kd.N_drew)); exact Kd.N_mono HO270.out (fun _ hk => ⟨hk.1.2.2.2.2.1, ⟨hk.2, ⟨hk.1.1, ⟨hk.1.2.1, ⟨hk.1.2.2.1, ⟨hk.1.2.2.2.1, ⟨hk.1.2.2.2.2.2.1, ⟨hk.1.2.2.2.2.2.2.1, ⟨hk.1.2.2.2.2.2.2.2.1, hk.1.2.2.2.2.2.2.2.2⟩⟩⟩⟩⟩⟩⟩⟩⟩)), (by (with_reducible repeat (first | apply Kd.N_alloc | apply Kd.N_drewN | apply Kd.N_drew)); exact Kd.N_mono HO282.out (fun _ hk => ⟨hk.2.2.1, ⟨hk.2.2.2.1, ⟨hk.1, ⟨hk.2.1, ⟨hk.2.2.2.2.1, ⟨hk.2.2.2.2.2.1, ⟨hk.2.2.2.2.2.2.1, hk.2.2.2.2.2.2.2⟩⟩⟩⟩⟩⟩⟩)), (by (with_reducible repeat (first | apply Kd.R_alloc | apply Kd.R_drewN | apply Kd.R_drew)); exact Kd.R_mono HO_250003.out (fun _ hk => ⟨hk.2, hk.1⟩)), (by (with_reducible repeat (first | apply Kd.N_alloc | apply Kd.N_drewN | apply Kd.N_drew)); exact Kd.N_mono HO_250004.out (fun _ hk => ⟨hk.1.2.2.2.1, ⟨hk.1.2.2.2.2.1, ⟨hk.2, ⟨hk.1.1, ⟨hk.1.2.1, ⟨hk.1.2.2.1, ⟨hk.1.2.2.2.2.2.1, ⟨hk.1.2.2.2.2.2.2.1, ⟨hk.1.2.2.2.2.2.2.2.1, hk.1.2.2.2.2.2.2.2.2⟩⟩⟩⟩⟩⟩⟩⟩⟩)), (by (with_reducible repeat (first | apply Kd.R_alloc | apply Kd.R_drewN | apply Kd.R_drew)); exact Kd.R_mono HO_262003.out (fun _ hk => ⟨hk.2, hk.1⟩)), (by (with_reducible repeat (first | apply Kd.N_alloc | apply Kd.N_drewN | apply Kd.N_drew)); exact Kd.N_mono HO_262004.out (fun _ hk => ⟨hk.1.2.2.2.1, ⟨hk.1.2.2.2.2.1, ⟨hk.2, ⟨hk.1.1, ⟨hk.1.2.1, ⟨hk.1.2.2.1, ⟨hk.1.2.2.2.2.2.1, ⟨hk.1.2.2.2.2.2.2.1, ⟨hk.1.2.2.2.2.2.2.2.1, hk.1.2.2.2.2.2.2.2.2⟩⟩⟩⟩⟩⟩⟩⟩⟩)), (qK BK249.out), (qK BK261.out), (qK BK273.out), (qK BK283.out), GW283.out, GE283.out, NB249_283.out, NB283_249.out, NB261_283.out, NB283_261.out, NB273_283.out, NB283_273.out, (by repeat (first | (with_reducible first | exact HB.out | apply below_alloc | apply pw_below_drewN | apply below_drew1 | refine below_set ?_ GE249.out | refine below_set ?_ GE261.out | refine below_set ?_ GE273.out | refine below_set ?_ GE283.out) | exact HB.out))⟩)
            ·
             skip
             refine box_step ?hg (N := 14) ?hd (cs := #[.int .i64 0, .string (⟨#[]⟩ : ByteArray), .int .i64 0, .slice none 0 0, .slice none 0 0]) (t := 28) ?hr ?_; (case hd => rfl); (case hg => rfl); (case hr => first | (go_simp; done) | (go_simp; rfl))
             intro gb283 hg w49 hbox hb
             have n0_ := qM (Kd.R_below (qR HO_250003.out) hb)
             have n1_ := qM (Kd.N_below (Kd.N_elderB (qN HO_250004.out) gb283 (Nat.le_of_eq hg.symm)) hb)
             have n2_ := qM (Kd.R_below (qR HO_262003.out) hb)
             have n3_ := qM (Kd.N_below (Kd.N_elderB (qN HO_262004.out) gb283 (Nat.le_of_eq hg.symm)) hb)
             have n4_ := qM (Kd.R_below (qR HO267.out) hb)
             have n5_ := qM (Kd.N_below (Kd.N_elderB (qN HO270.out) gb283 (Nat.le_of_eq hg.symm)) hb)
             have n6_ := qM (Kd.N_below (Kd.N_elderB (qN HO276.out) gb283 (Nat.le_of_eq hg.symm)) hb)
             have n7_ := qM (blk_below (g := gb249) (o := .cells #[.int .i64 t238, .string t239, .int .i64 t240, .slice Ao12 t241.length co12, .slice Ao13 t244.length co13] 28 (0, 0)) (qK BK249.out) hb)
             have n8_ := qM (blk_below (g := gb261) (o := .cells #[.int .i64 t250, .string t251, .int .i64 t252, .slice Ao18 t253.length co18, .slice Ao19 t256.length co19] 28 (0, 0)) (qK BK261.out) hb)
             have n9_ := qM (blk_below (g := gb273) (o := .cells #[.int .i64 t262, .string t263, .int .i64 t264, .slice Ao43 t265.length co43, .slice Ao44 t268.length co44] 28 (0, 0)) (qK BK273.out) hb)
             have n10_ := qM (below_step (by repeat (first | (with_reducible first | exact HB.out | apply below_alloc | apply pw_below_drewN | apply below_drew1 | refine below_set ?_ GE249.out | refine below_set ?_ GE261.out | refine below_set ?_ GE273.out) | exact HB.out)) hb)
             have n11_ := qM (hbox)
             have n12_ := qM ((by rw [hg]; exact (below_size (by repeat (first | (with_reducible first | exact HB.out | apply below_alloc | apply pw_below_drewN | apply below_drew1 | refine below_set ?_ GE249.out | refine below_set ?_ GE261.out | refine below_set ?_ GE273.out) | exact HB.out))) : w.heap.size ≤ gb283))
             have n13_ := qM ((by rw [hg]; exact (below_size (by repeat (first | (with_reducible first | exact HB.out | apply below_alloc | apply pw_below_drewN | apply below_drew1 | refine below_set ?_ GE249.out | refine below_set ?_ GE261.out | refine below_set ?_ GE273.out) | exact HB.out))) : w.heap.size ≤ gb283))
             have n14_ := qM ((by rw [hg]; exact Nat.ne_of_lt (blk_lt (g := gb249) (o := .cells #[.int .i64 t238, .string t239, .int .i64 t240, .slice Ao12 t241.length co12, .slice Ao13 t244.length co13] 28 (0, 0)) (qK BK249.out)) : gb249 ≠ gb283))
             have n15_ := qM ((by rw [hg]; exact Nat.ne_of_gt (blk_lt (g := gb249) (o := .cells #[.int .i64 t238, .string t239, .int .i64 t240, .slice Ao12 t241.length co12, .slice Ao13 t244.length co13] 28 (0, 0)) (qK BK249.out)) : gb283 ≠ gb249))
             have n16_ := qM ((by rw [hg]; exact Nat.ne_of_lt (blk_lt (g := gb261) (o := .cells #[.int .i64 t250, .string t251, .int .i64 t252, .slice Ao18 t253.length co18, .slice Ao19 t256.length co19] 28 (0, 0)) (qK BK261.out)) : gb261 ≠ gb283))
             have n17_ := qM ((by rw [hg]; exact Nat.ne_of_gt (blk_lt (g := gb261) (o := .cells #[.int .i64 t250, .string t251, .int .i64 t252, .slice Ao18 t253.length co18, .slice Ao19 t256.length co19] 28 (0, 0)) (qK BK261.out)) : gb283 ≠ gb261))
             have n18_ := qM ((by rw [hg]; exact Nat.ne_of_lt (blk_lt (g := gb273) (o := .cells #[.int .i64 t262, .string t263, .int .i64 t264, .slice Ao43 t265.length co43, .slice Ao44 t268.length co44] 28 (0, 0)) (qK BK273.out)) : gb273 ≠ gb283))
             have n19_ := qM ((by rw [hg]; exact Nat.ne_of_gt (blk_lt (g := gb273) (o := .cells #[.int .i64 t262, .string t263, .int .i64 t264, .slice Ao43 t265.length co43, .slice Ao44 t268.length co44] 28 (0, 0)) (qK BK273.out)) : gb283 ≠ gb273))
             clear HO_250003; clear HO_250004; clear HO_262003; clear HO_262004; clear HO267; clear HO270; clear HO276; clear BK249; clear BK261; clear BK273; clear HB
             have HO_250003 := n0_
             have HO_250004 := n1_
             have HO_262003 := n2_
             have HO_262004 := n3_
             have HO267 := n4_
             have HO270 := n5_
             have HO276 := n6_
             have BK249 := n7_
             have BK261 := n8_
             have BK273 := n9_
             have HB := n10_
             have BK283 := n11_
             have GW283 := n12_
             have GE283 := n13_
             have NB249_283 := n14_
             have NB283_249 := n15_
             have NB261_283 := n16_
             have NB283_261 := n17_
             have NB273_283 := n18_
             have NB283_273 := n19_
             clear n0_ n1_ n2_ n3_ n4_ n5_ n6_ n7_ n8_ n9_ n10_ n11_ n12_ n13_ n14_ n15_ n16_ n17_ n18_ n19_; clear hb hbox hg
             refine hK.out _ _ ⟨(blk_cell BK249.out 0).trans rfl, (blk_cell BK249.out 1).trans rfl, (blk_cell BK249.out 2).trans rfl, (blk_cell BK249.out 3).trans rfl, (blk_cell BK249.out 4).trans rfl, (blk_cell BK261.out 0).trans rfl, (blk_cell BK261.out 1).trans rfl, (blk_cell BK261.out 2).trans rfl, (blk_cell BK261.out 3).trans rfl, (blk_cell BK261.out 4).trans rfl⟩ (fun hHeld => ?_)
             clear hK K
             refine norm_ (a' := ?_) ?_ ?_
             rotate_left
             ·
              show Act.put _ (some 14) _ = _
              simp only [Act.put, List.setIfInBounds_toArray, List.set_cons_zero, List.set_cons_succ, i64_w, i32_w]
              rfl
             refine one_ (i := 3) (N := some 57) #[true, true, true, true, true, true, false, false, true, false] rfl rfl (one_of HT_.out (by kernel_rfl)) (by decide) (fun K hK => ?_)
             refine Kd.N_append_rows_step k28 (w0 := w) w.heap.size (by rfl) (.tmp 54) (.tmp 56) 26 28 (.agg #[(.int .i64 0), (.string ⟨#[]⟩), (.int .i64 0), (.slice none 0 0), (.slice none 0 0)]) 80 rfl Tryd.underlying26 info28 rfl (by decide) (by omega) v275 y274 t244 _ _ _ (fun k_ => some k_ ≠ (.slice Ao12 t241.length co12 : Value).ownBlock ∧ some k_ ≠ (.slice Ao18 t253.length co18 : Value).ownBlock ∧ some k_ ≠ (.slice Ao19 t256.length co19 : Value).ownBlock ∧ some k_ ≠ (.slice Ao43 t265.length co43 : Value).ownBlock ∧ some k_ ≠ (.slice Ao44 t268.length co44 : Value).ownBlock ∧ k_ ≠ gb249 ∧ k_ ≠ gb261 ∧ k_ ≠ gb273 ∧ k_ ≠ gb283) (fun k_ => ((fun k_ => some k_ ≠ (.slice Ao12 t241.length co12 : Value).ownBlock ∧ some k_ ≠ (.slice Ao18 t253.length co18 : Value).ownBlock ∧ some k_ ≠ (.slice Ao19 t256.length co19 : Value).ownBlock ∧ some k_ ≠ (.slice Ao43 t265.length co43 : Value).ownBlock ∧ some k_ ≠ (.slice Ao44 t268.length co44 : Value).ownBlock ∧ k_ ≠ gb249 ∧ k_ ≠ gb261 ∧ k_ ≠ gb273 ∧ k_ ≠ gb283)) k_ ∧ some k_ ≠ (v275 : Value).ownBlock) rfl rfl ?aO ?aR (fun _ hk => hk) ?aF ?aB ?aS ?aL ?_
             (case aR => exact (by skip; exact Kd.N_F (Kd.N_mono (ok' := (fun k_ => ((fun k_ => some k_ ≠ (.slice Ao12 t241.length co12 : Value).ownBlock ∧ some k_ ≠ (.slice Ao18 t253.length co18 : Value).ownBlock ∧ some k_ ≠ (.slice Ao19 t256.length co19 : Value).ownBlock ∧ some k_ ≠ (.slice Ao43 t265.length co43 : Value).ownBlock ∧ some k_ ≠ (.slice Ao44 t268.length co44 : Value).ownBlock ∧ k_ ≠ gb249 ∧ k_ ≠ gb261 ∧ k_ ≠ gb273 ∧ k_ ≠ gb283)) k_ ∧ some k_ ≠ (v275 : Value).ownBlock)) (HO_250004.out) (fun k_ hk => ⟨⟨hk.1.1.1, ⟨hk.1.1.2.1, ⟨hk.1.1.2.2.1, ⟨hk.1.1.2.2.2.1, ⟨hk.1.1.2.2.2.2.1, ⟨hk.1.1.2.2.2.2.2.1, ⟨hk.1.1.2.2.2.2.2.2.1, ⟨hk.1.1.2.2.2.2.2.2.2, hk.2⟩⟩⟩⟩⟩⟩⟩⟩, hk.1.2⟩))))
             (case aB => exact (by repeat (first | (with_reducible first | exact HB.out | apply below_alloc | apply pw_below_drewN | apply below_drew1 | refine below_set ?_ GE249.out | refine below_set ?_ GE261.out | refine below_set ?_ GE273.out | refine below_set ?_ GE283.out) | exact HB.out)))
             (case aF => exact (fun k_ hk => ⟨Kd.fresh' (Kd.R_lt (qR HO_250003.out)) k_ hk, Kd.fresh' (Kd.R_lt (qR HO_262003.out)) k_ hk, Kd.fresh' (Kd.N_lt (qN HO_262004.out)) k_ hk, Kd.fresh' (Kd.R_lt (qR HO267.out)) k_ hk, Kd.fresh' (Kd.N_lt (qN HO270.out)) k_ hk, Kd.freshB (g := gb249) (o := .cells #[.int .i64 t238, .string t239, .int .i64 t240, .slice Ao12 t241.length co12, .slice Ao13 t244.length co13] 28 (0, 0)) (qK BK249.out) k_ hk, Kd.freshB (g := gb261) (o := .cells #[.int .i64 t250, .string t251, .int .i64 t252, .slice Ao18 t253.length co18, .slice Ao19 t256.length co19] 28 (0, 0)) (qK BK261.out) k_ hk, Kd.freshB (g := gb273) (o := .cells #[.int .i64 t262, .string t263, .int .i64 t264, .slice Ao43 t265.length co43, .slice Ao44 t268.length co44] 28 (0, 0)) (qK BK273.out) k_ hk, Kd.freshB (g := gb283) (o := .cells #[.int .i64 0, .string (⟨#[]⟩ : ByteArray), .int .i64 0, .slice none 0 0, .slice none 0 0] 28 (0, 0)) (qK BK283.out) k_ hk⟩))
             (case aO => exact (by (with_reducible repeat (first | apply Kd.N_alloc | apply Kd.N_drewN | apply Kd.N_drew)); exact Kd.N_mono HO276.out (fun _ hk => ⟨hk.1.1, ⟨hk.1.2.2.1, ⟨hk.1.2.2.2.1, ⟨hk.1.2.2.2.2.1, ⟨hk.1.2.2.2.2.2.1, ⟨hk.1.2.2.2.2.2.2.1, ⟨hk.1.2.2.2.2.2.2.2.1, ⟨hk.1.2.2.2.2.2.2.2.2, hk.2⟩⟩⟩⟩⟩⟩⟩⟩)))
             (case aS => exact (below_size (by repeat (first | (with_reducible first | exact HB.out | apply below_alloc | apply pw_below_drewN | apply below_drew1 | refine below_set ?_ GE249.out | refine below_set ?_ GE261.out | refine below_set ?_ GE273.out | refine below_set ?_ GE283.out) | exact HB.out))))
             (case aL => have := LMc34.out; omega)
             intro v278 w50 ho hb hg hat
             rw [← Ny277.out] at ho
             have n0_ := qM (Kd.R_over' (qR HO_250003.out) (Kd.N_typed (qN HO276.out)) (by decide) hg)
             have n1_ := qM (Kd.N_afterv (ok := (fun k_ => some k_ ≠ (.slice Ao12 t241.length co12 : Value).ownBlock ∧ some k_ ≠ (.slice Ao18 t253.length co18 : Value).ownBlock ∧ some k_ ≠ (.slice Ao19 t256.length co19 : Value).ownBlock ∧ some k_ ≠ (.slice Ao43 t265.length co43 : Value).ownBlock ∧ some k_ ≠ (.slice Ao44 t268.length co44 : Value).ownBlock ∧ k_ ≠ gb249 ∧ k_ ≠ gb261 ∧ k_ ≠ gb273 ∧ k_ ≠ gb283)) (by (with_reducible repeat (first | apply Kd.N_alloc | apply Kd.N_drewN | apply Kd.N_drew)); exact Kd.N_mono HO_250004.out (fun _ hk => ⟨⟨hk.1.1.1, ⟨hk.1.1.2.1, ⟨hk.1.1.2.2.1, ⟨hk.1.1.2.2.2.1, ⟨hk.1.1.2.2.2.2.1, ⟨hk.1.1.2.2.2.2.2.1, ⟨hk.1.1.2.2.2.2.2.2.1, ⟨hk.1.1.2.2.2.2.2.2.2, hk.2⟩⟩⟩⟩⟩⟩⟩⟩, hk.1.2⟩)) hg hat)
             have n2_ := qM (Kd.R_over' (qR HO_262003.out) (Kd.N_typed (qN HO276.out)) (by decide) hg)
             have n3_ := qM (Kd.N_afterv (ok := (fun k_ => some k_ ≠ (.slice Ao12 t241.length co12 : Value).ownBlock ∧ some k_ ≠ (.slice Ao13 t244.length co13 : Value).ownBlock ∧ some k_ ≠ (.slice Ao18 t253.length co18 : Value).ownBlock ∧ some k_ ≠ (.slice Ao43 t265.length co43 : Value).ownBlock ∧ some k_ ≠ (.slice Ao44 t268.length co44 : Value).ownBlock ∧ k_ ≠ gb249 ∧ k_ ≠ gb261 ∧ k_ ≠ gb273 ∧ k_ ≠ gb283)) (by (with_reducible repeat (first | apply Kd.N_alloc | apply Kd.N_drewN | apply Kd.N_drew)); exact Kd.N_mono HO_262004.out (fun _ hk => ⟨⟨hk.1.1.1, ⟨hk.1.1.2.1, ⟨hk.1.1.2.2.1, ⟨hk.1.1.2.2.2.1, ⟨hk.1.1.2.2.2.2.1, ⟨hk.1.1.2.2.2.2.2.1, ⟨hk.1.1.2.2.2.2.2.2.1, ⟨hk.1.1.2.2.2.2.2.2.2, hk.2⟩⟩⟩⟩⟩⟩⟩⟩, hk.1.2⟩)) hg hat)
             have n4_ := qM (blk_grown (g := gb249) (o := .cells #[.int .i64 t238, .string t239, .int .i64 t240, .slice Ao12 t241.length co12, .slice Ao13 t244.length co13] 28 (0, 0)) (qK BK249.out) hg (Kd.N_away HO276.out (fun _ hk => hk.1.2.2.2.2.2.2.1)))
             have n5_ := qM (blk_grown (g := gb261) (o := .cells #[.int .i64 t250, .string t251, .int .i64 t252, .slice Ao18 t253.length co18, .slice Ao19 t256.length co19] 28 (0, 0)) (qK BK261.out) hg (Kd.N_away HO276.out (fun _ hk => hk.1.2.2.2.2.2.2.2.1)))
             have n6_ := qM (Kd.R_over' (qR HO267.out) (Kd.N_typed (qN HO276.out)) (by decide) hg)
             have n7_ := qM (Kd.N_afterv (ok := (fun k_ => some k_ ≠ (.slice Ao12 t241.length co12 : Value).ownBlock ∧ some k_ ≠ (.slice Ao13 t244.length co13 : Value).ownBlock ∧ some k_ ≠ (.slice Ao18 t253.length co18 : Value).ownBlock ∧ some k_ ≠ (.slice Ao19 t256.length co19 : Value).ownBlock ∧ some k_ ≠ (.slice Ao43 t265.length co43 : Value).ownBlock ∧ k_ ≠ gb249 ∧ k_ ≠ gb261 ∧ k_ ≠ gb273 ∧ k_ ≠ gb283)) (by (with_reducible repeat (first | apply Kd.N_alloc | apply Kd.N_drewN | apply Kd.N_drew)); exact Kd.N_mono HO270.out (fun _ hk => ⟨⟨hk.1.1.1, ⟨hk.1.1.2.1, ⟨hk.1.1.2.2.1, ⟨hk.1.1.2.2.2.1, ⟨hk.1.1.2.2.2.2.1, ⟨hk.1.1.2.2.2.2.2.1, ⟨hk.1.1.2.2.2.2.2.2.1, ⟨hk.1.1.2.2.2.2.2.2.2, hk.2⟩⟩⟩⟩⟩⟩⟩⟩, hk.1.2⟩)) hg hat)
             have n8_ := qM (blk_grown (g := gb273) (o := .cells #[.int .i64 t262, .string t263, .int .i64 t264, .slice Ao43 t265.length co43, .slice Ao44 t268.length co44] 28 (0, 0)) (qK BK273.out) hg (Kd.N_away HO276.out (fun _ hk => hk.1.2.2.2.2.2.2.2.2)))
             have n9_ := qM (blk_grown (g := gb283) (o := .cells #[.int .i64 0, .string (⟨#[]⟩ : ByteArray), .int .i64 0, .slice none 0 0, .slice none 0 0] 28 (0, 0)) (qK BK283.out) hg (Kd.N_away HO276.out (fun _ hk => hk.2)))
             have n10_ := qM (hb)
             have n11_ := qM (ho)
             clear HO_250003; clear HO_250004; clear HO_262003; clear HO_262004; clear BK249; clear BK261; clear HO267; clear HO270; clear BK273; clear BK283; clear HB; clear HO276
             have HO_250003 := n0_
             have HO_250004 := n1_
             have HO_262003 := n2_
             have HO_262004 := n3_
             have BK249 := n4_
             have BK261 := n5_
             have HO267 := n6_
             have HO270 := n7_
             have BK273 := n8_
             have BK283 := n9_
             have HB := n10_
             have HO279 := n11_
             clear n0_ n1_ n2_ n3_ n4_ n5_ n6_ n7_ n8_ n9_ n10_ n11_; clear ho hb hg hat
             refine hK.out _ _ ⟨(blk_cell BK249.out 0).trans rfl, (blk_cell BK249.out 1).trans rfl, (blk_cell BK249.out 2).trans rfl, (blk_cell BK249.out 3).trans rfl, (blk_cell BK249.out 4).trans rfl, (blk_cell BK261.out 0).trans rfl, (blk_cell BK261.out 1).trans rfl, (blk_cell BK261.out 2).trans rfl, (blk_cell BK261.out 3).trans rfl, (blk_cell BK261.out 4).trans rfl⟩ (fun hHeld => ?_)
             clear hK K
             refine norm_ (a' := ?_) ?_ ?_
             rotate_left
             ·
              show Act.put _ (some 57) _ = _
              simp only [Act.put, List.setIfInBounds_toArray, List.set_cons_zero, List.set_cons_succ, i64_w, i32_w]
              rfl
             refine one_ (i := 6) (N := some 60) #[true, true, true, true, true, true, true, false, true, false] rfl rfl (one_of HT_.out (by kernel_rfl)) (by decide) (fun K hK => ?_)
             refine Kd.N_append_rows_step k28 (w0 := w) w.heap.size (by rfl) (.tmp 57) (.tmp 59) 26 28 (.agg #[(.int .i64 0), (.string ⟨#[]⟩), (.int .i64 0), (.slice none 0 0), (.slice none 0 0)]) 80 rfl Tryd.underlying26 info28 rfl (by decide) (by omega) v278 y277 t256 _ _ _ (fun k_ => some k_ ≠ (.slice Ao12 t241.length co12 : Value).ownBlock ∧ some k_ ≠ (.slice Ao18 t253.length co18 : Value).ownBlock ∧ some k_ ≠ (.slice Ao43 t265.length co43 : Value).ownBlock ∧ some k_ ≠ (.slice Ao44 t268.length co44 : Value).ownBlock ∧ k_ ≠ gb249 ∧ k_ ≠ gb261 ∧ k_ ≠ gb273 ∧ k_ ≠ gb283) (fun k_ => ((fun k_ => some k_ ≠ (.slice Ao12 t241.length co12 : Value).ownBlock ∧ some k_ ≠ (.slice Ao18 t253.length co18 : Value).ownBlock ∧ some k_ ≠ (.slice Ao43 t265.length co43 : Value).ownBlock ∧ some k_ ≠ (.slice Ao44 t268.length co44 : Value).ownBlock ∧ k_ ≠ gb249 ∧ k_ ≠ gb261 ∧ k_ ≠ gb273 ∧ k_ ≠ gb283)) k_ ∧ some k_ ≠ (v278 : Value).ownBlock) rfl rfl ?aO ?aR (fun _ hk => hk) ?aF ?aB ?aS ?aL ?_
             (case aR => exact (by skip; exact Kd.N_F (Kd.N_mono (ok' := (fun k_ => ((fun k_ => some k_ ≠ (.slice Ao12 t241.length co12 : Value).ownBlock ∧ some k_ ≠ (.slice Ao18 t253.length co18 : Value).ownBlock ∧ some k_ ≠ (.slice Ao43 t265.length co43 : Value).ownBlock ∧ some k_ ≠ (.slice Ao44 t268.length co44 : Value).ownBlock ∧ k_ ≠ gb249 ∧ k_ ≠ gb261 ∧ k_ ≠ gb273 ∧ k_ ≠ gb283)) k_ ∧ some k_ ≠ (v278 : Value).ownBlock)) (HO_262004.out) (fun k_ hk => ⟨⟨hk.1.1, ⟨hk.1.2.2.1, ⟨hk.1.2.2.2.1, ⟨hk.1.2.2.2.2.1, ⟨hk.1.2.2.2.2.2.1, ⟨hk.1.2.2.2.2.2.2.1, ⟨hk.1.2.2.2.2.2.2.2.1, hk.1.2.2.2.2.2.2.2.2⟩⟩⟩⟩⟩⟩⟩, hk.2⟩))))
             (case aB => exact (by repeat (first | (with_reducible first | exact HB.out | apply below_alloc | apply pw_below_drewN | apply below_drew1 | refine below_set ?_ GE249.out | refine below_set ?_ GE261.out | refine below_set ?_ GE273.out | refine below_set ?_ GE283.out) | exact HB.out)))
             (case aF => exact (fun k_ hk => ⟨Kd.fresh' (Kd.R_lt (qR HO_250003.out)) k_ hk, Kd.fresh' (Kd.R_lt (qR HO_262003.out)) k_ hk, Kd.fresh' (Kd.R_lt (qR HO267.out)) k_ hk, Kd.fresh' (Kd.N_lt (qN HO270.out)) k_ hk, Kd.freshB (g := gb249) (o := .cells #[.int .i64 t238, .string t239, .int .i64 t240, .slice Ao12 t241.length co12, .slice Ao13 t244.length co13] 28 (0, 0)) (qK BK249.out) k_ hk, Kd.freshB (g := gb261) (o := .cells #[.int .i64 t250, .string t251, .int .i64 t252, .slice Ao18 t253.length co18, .slice Ao19 t256.length co19] 28 (0, 0)) (qK BK261.out) k_ hk, Kd.freshB (g := gb273) (o := .cells #[.int .i64 t262, .string t263, .int .i64 t264, .slice Ao43 t265.length co43, .slice Ao44 t268.length co44] 28 (0, 0)) (qK BK273.out) k_ hk, Kd.freshB (g := gb283) (o := .cells #[.int .i64 0, .string (⟨#[]⟩ : ByteArray), .int .i64 0, .slice none 0 0, .slice none 0 0] 28 (0, 0)) (qK BK283.out) k_ hk⟩))
             (case aO => exact (by (with_reducible repeat (first | apply Kd.N_alloc | apply Kd.N_drewN | apply Kd.N_drew)); exact Kd.N_mono HO279.out (fun _ hk => ⟨hk.1, ⟨hk.2.1, ⟨hk.2.2.2.1, ⟨hk.2.2.2.2.1, ⟨hk.2.2.2.2.2.1, ⟨hk.2.2.2.2.2.2.1, ⟨hk.2.2.2.2.2.2.2.1, hk.2.2.2.2.2.2.2.2⟩⟩⟩⟩⟩⟩⟩)))
             (case aS => exact (below_size (by repeat (first | (with_reducible first | exact HB.out | apply below_alloc | apply pw_below_drewN | apply below_drew1 | refine below_set ?_ GE249.out | refine below_set ?_ GE261.out | refine below_set ?_ GE273.out | refine below_set ?_ GE283.out) | exact HB.out))))
             (case aL => have := LMc35.out; omega)
             intro v281 w51 ho hb hg hat
             rw [← Ny280.out] at ho
             have n0_ := qM (Kd.R_over' (qR HO_250003.out) (Kd.N_typed (qN HO279.out)) (by decide) hg)
             have n1_ := qM (Kd.N_afterv (ok := (fun k_ => some k_ ≠ (.slice Ao12 t241.length co12 : Value).ownBlock ∧ some k_ ≠ (.slice Ao18 t253.length co18 : Value).ownBlock ∧ some k_ ≠ (.slice Ao19 t256.length co19 : Value).ownBlock ∧ some k_ ≠ (.slice Ao43 t265.length co43 : Value).ownBlock ∧ some k_ ≠ (.slice Ao44 t268.length co44 : Value).ownBlock ∧ k_ ≠ gb249 ∧ k_ ≠ gb261 ∧ k_ ≠ gb273 ∧ k_ ≠ gb283)) (qN HO_250004.out) hg hat)
             have n2_ := qM (Kd.R_over' (qR HO_262003.out) (Kd.N_typed (qN HO279.out)) (by decide) hg)
             have n3_ := qM (Kd.N_afterv (ok := (fun k_ => some k_ ≠ (.slice Ao12 t241.length co12 : Value).ownBlock ∧ some k_ ≠ (.slice Ao13 t244.length co13 : Value).ownBlock ∧ some k_ ≠ (.slice Ao18 t253.length co18 : Value).ownBlock ∧ some k_ ≠ (.slice Ao43 t265.length co43 : Value).ownBlock ∧ some k_ ≠ (.slice Ao44 t268.length co44 : Value).ownBlock ∧ k_ ≠ gb249 ∧ k_ ≠ gb261 ∧ k_ ≠ gb273 ∧ k_ ≠ gb283)) (qN HO_262004.out) hg hat)
             have n4_ := qM (blk_grown (g := gb249) (o := .cells #[.int .i64 t238, .string t239, .int .i64 t240, .slice Ao12 t241.length co12, .slice Ao13 t244.length co13] 28 (0, 0)) (qK BK249.out) hg (Kd.N_away HO279.out (fun _ hk => hk.2.2.2.2.2.1)))
             have n5_ := qM (blk_grown (g := gb261) (o := .cells #[.int .i64 t250, .string t251, .int .i64 t252, .slice Ao18 t253.length co18, .slice Ao19 t256.length co19] 28 (0, 0)) (qK BK261.out) hg (Kd.N_away HO279.out (fun _ hk => hk.2.2.2.2.2.2.1)))
             have n6_ := qM (Kd.R_over' (qR HO267.out) (Kd.N_typed (qN HO279.out)) (by decide) hg)
             have n7_ := qM (Kd.N_afterv (ok := (fun k_ => some k_ ≠ (.slice Ao12 t241.length co12 : Value).ownBlock ∧ some k_ ≠ (.slice Ao13 t244.length co13 : Value).ownBlock ∧ some k_ ≠ (.slice Ao18 t253.length co18 : Value).ownBlock ∧ some k_ ≠ (.slice Ao19 t256.length co19 : Value).ownBlock ∧ some k_ ≠ (.slice Ao43 t265.length co43 : Value).ownBlock ∧ k_ ≠ gb249 ∧ k_ ≠ gb261 ∧ k_ ≠ gb273 ∧ k_ ≠ gb283)) (qN HO270.out) hg hat)
             have n8_ := qM (blk_grown (g := gb273) (o := .cells #[.int .i64 t262, .string t263, .int .i64 t264, .slice Ao43 t265.length co43, .slice Ao44 t268.length co44] 28 (0, 0)) (qK BK273.out) hg (Kd.N_away HO279.out (fun _ hk => hk.2.2.2.2.2.2.2.1)))
             have n9_ := qM (blk_grown (g := gb283) (o := .cells #[.int .i64 0, .string (⟨#[]⟩ : ByteArray), .int .i64 0, .slice none 0 0, .slice none 0 0] 28 (0, 0)) (qK BK283.out) hg (Kd.N_away HO279.out (fun _ hk => hk.2.2.2.2.2.2.2.2)))
             have n10_ := qM (hb)
             have n11_ := qM (ho)
             clear HO_250003; clear HO_250004; clear HO_262003; clear HO_262004; clear BK249; clear BK261; clear HO267; clear HO270; clear BK273; clear BK283; clear HB; clear HO279
             have HO_250003 := n0_
             have HO_250004 := n1_
             have HO_262003 := n2_
             have HO_262004 := n3_
             have BK249 := n4_
             have BK261 := n5_
             have HO267 := n6_
             have HO270 := n7_
             have BK273 := n8_
             have BK283 := n9_
             have HB := n10_
             have HO282 := n11_
             clear n0_ n1_ n2_ n3_ n4_ n5_ n6_ n7_ n8_ n9_ n10_ n11_; clear ho hb hg hat
             obtain ⟨Ao52, co52, eo52⟩ := Kd.N_slice HO282.out
             (first | subst eo52 | (injection eo52 with f1_ f2_ f3_; have f4_ := f1_.symm; have f5_ := f3_.symm; clear f1_ f2_ f3_; subst f4_; subst f5_))
             refine hK.out _ _ ⟨(blk_cell BK249.out 0).trans rfl, (blk_cell BK249.out 1).trans rfl, (blk_cell BK249.out 2).trans rfl, (blk_cell BK249.out 3).trans rfl, (blk_cell BK249.out 4).trans rfl, (blk_cell BK261.out 0).trans rfl, (blk_cell BK261.out 1).trans rfl, (blk_cell BK261.out 2).trans rfl, (blk_cell BK261.out 3).trans rfl, (blk_cell BK261.out 4).trans rfl⟩ (fun hHeld => ?_)
             clear hK K
             refine norm_ (a' := ?_) ?_ ?_
             rotate_left
             ·
              show Act.put _ (some 60) _ = _
              simp only [Act.put, List.setIfInBounds_toArray, List.set_cons_zero, List.set_cons_succ, i64_w, i32_w]
              rfl
             refine pure_ (i := 7) (N := some 61) (v := ?_) (a' := ?_) #[true, true, true, true, true, true, true, true, true, false] rfl rfl (any_of HT_.out (by kernel_rfl)) (fun _ _ _ h => h) (Or.inl ⟨by rfl, ?_⟩) ?_ ?_
             rotate_left
             · intro w'; go_simp; with_reducible rfl
             rotate_left
             ·
              simp only [Act.put, List.setIfInBounds_toArray, List.set_cons_zero, List.set_cons_succ, i64_w, i32_w]
              rfl
             exact norm_ (by simp only [putAll, Act.put, List.setIfInBounds_toArray, List.set_cons_zero, List.set_cons_succ]) (hCont (v275, v278, .slice Ao52 y280.length co52, gb283) _ ⟨hHeld, (qR HO267.out), (by (with_reducible repeat (first | apply Kd.N_alloc | apply Kd.N_drewN | apply Kd.N_drew)); exact Kd.N_mono HO270.out (fun _ hk => ⟨hk.1.2.2.2.2.1, ⟨hk.2, ⟨hk.1.1, ⟨hk.1.2.1, ⟨hk.1.2.2.1, ⟨hk.1.2.2.2.1, ⟨hk.1.2.2.2.2.2.1, ⟨hk.1.2.2.2.2.2.2.1, ⟨hk.1.2.2.2.2.2.2.2.1, hk.1.2.2.2.2.2.2.2.2⟩⟩⟩⟩⟩⟩⟩⟩⟩)), (by (with_reducible repeat (first | apply Kd.N_alloc | apply Kd.N_drewN | apply Kd.N_drew)); exact Kd.N_mono HO282.out (fun _ hk => ⟨hk.2.2.1, ⟨hk.2.2.2.1, ⟨hk.1, ⟨hk.2.1, ⟨hk.2.2.2.2.1, ⟨hk.2.2.2.2.2.1, ⟨hk.2.2.2.2.2.2.1, hk.2.2.2.2.2.2.2⟩⟩⟩⟩⟩⟩⟩)), (by (with_reducible repeat (first | apply Kd.R_alloc | apply Kd.R_drewN | apply Kd.R_drew)); exact Kd.R_mono HO_250003.out (fun _ hk => ⟨hk.2, hk.1⟩)), (by (with_reducible repeat (first | apply Kd.N_alloc | apply Kd.N_drewN | apply Kd.N_drew)); exact Kd.N_mono HO_250004.out (fun _ hk => ⟨hk.1.2.2.2.1, ⟨hk.1.2.2.2.2.1, ⟨hk.2, ⟨hk.1.1, ⟨hk.1.2.1, ⟨hk.1.2.2.1, ⟨hk.1.2.2.2.2.2.1, ⟨hk.1.2.2.2.2.2.2.1, ⟨hk.1.2.2.2.2.2.2.2.1, hk.1.2.2.2.2.2.2.2.2⟩⟩⟩⟩⟩⟩⟩⟩⟩)), (by (with_reducible repeat (first | apply Kd.R_alloc | apply Kd.R_drewN | apply Kd.R_drew)); exact Kd.R_mono HO_262003.out (fun _ hk => ⟨hk.2, hk.1⟩)), (by (with_reducible repeat (first | apply Kd.N_alloc | apply Kd.N_drewN | apply Kd.N_drew)); exact Kd.N_mono HO_262004.out (fun _ hk => ⟨hk.1.2.2.2.1, ⟨hk.1.2.2.2.2.1, ⟨hk.2, ⟨hk.1.1, ⟨hk.1.2.1, ⟨hk.1.2.2.1, ⟨hk.1.2.2.2.2.2.1, ⟨hk.1.2.2.2.2.2.2.1, ⟨hk.1.2.2.2.2.2.2.2.1, hk.1.2.2.2.2.2.2.2.2⟩⟩⟩⟩⟩⟩⟩⟩⟩)), (qK BK249.out), (qK BK261.out), (qK BK273.out), (qK BK283.out), GW283.out, GE283.out, NB249_283.out, NB283_249.out, NB261_283.out, NB283_261.out, NB273_283.out, NB283_273.out, (by repeat (first | (with_reducible first | exact HB.out | apply below_alloc | apply pw_below_drewN | apply below_drew1 | refine below_set ?_ GE249.out | refine below_set ?_ GE261.out | refine below_set ?_ GE273.out | refine below_set ?_ GE283.out) | exact HB.out))⟩)
           ·
            skip
            refine box_step ?hg (N := 14) ?hd (cs := #[.int .i64 0, .string (⟨#[]⟩ : ByteArray), .int .i64 0, .slice none 0 0, .slice none 0 0]) (t := 28) ?hr ?_; (case hd => rfl); (case hg => rfl); (case hr => first | (go_simp; done) | (go_simp; rfl))
            intro gb283 hg w47 hbox hb
            have n0_ := qM (Kd.R_below (qR HO_250003.out) hb)
            have n1_ := qM (Kd.N_below (Kd.N_elderB (qN HO_250004.out) gb283 (Nat.le_of_eq hg.symm)) hb)
            have n2_ := qM (Kd.R_below (qR HO_262003.out) hb)
            have n3_ := qM (Kd.N_below (Kd.N_elderB (qN HO_262004.out) gb283 (Nat.le_of_eq hg.symm)) hb)
            have n4_ := qM (Kd.R_below (qR HO267.out) hb)
            have n5_ := qM (Kd.N_below (Kd.N_elderB (qN HO270.out) gb283 (Nat.le_of_eq hg.symm)) hb)
            have n6_ := qM (blk_below (g := gb249) (o := .cells #[.int .i64 t238, .string t239, .int .i64 t240, .slice Ao12 t241.length co12, .slice Ao13 t244.length co13] 28 (0, 0)) (qK BK249.out) hb)
            have n7_ := qM (blk_below (g := gb261) (o := .cells #[.int .i64 t250, .string t251, .int .i64 t252, .slice Ao18 t253.length co18, .slice Ao19 t256.length co19] 28 (0, 0)) (qK BK261.out) hb)
            have n8_ := qM (blk_below (g := gb273) (o := .cells #[.int .i64 t262, .string t263, .int .i64 t264, .slice Ao43 t265.length co43, .slice Ao44 t268.length co44] 28 (0, 0)) (qK BK273.out) hb)
            have n9_ := qM (below_step (by repeat (first | (with_reducible first | exact HB.out | apply below_alloc | apply pw_below_drewN | apply below_drew1 | refine below_set ?_ GE249.out | refine below_set ?_ GE261.out | refine below_set ?_ GE273.out) | exact HB.out)) hb)
            have n10_ := qM (hbox)
            have n11_ := qM ((by rw [hg]; exact (below_size (by repeat (first | (with_reducible first | exact HB.out | apply below_alloc | apply pw_below_drewN | apply below_drew1 | refine below_set ?_ GE249.out | refine below_set ?_ GE261.out | refine below_set ?_ GE273.out) | exact HB.out))) : w.heap.size ≤ gb283))
            have n12_ := qM ((by rw [hg]; exact (below_size (by repeat (first | (with_reducible first | exact HB.out | apply below_alloc | apply pw_below_drewN | apply below_drew1 | refine below_set ?_ GE249.out | refine below_set ?_ GE261.out | refine below_set ?_ GE273.out) | exact HB.out))) : w.heap.size ≤ gb283))
            have n13_ := qM ((by rw [hg]; exact Nat.ne_of_lt (blk_lt (g := gb249) (o := .cells #[.int .i64 t238, .string t239, .int .i64 t240, .slice Ao12 t241.length co12, .slice Ao13 t244.length co13] 28 (0, 0)) (qK BK249.out)) : gb249 ≠ gb283))
            have n14_ := qM ((by rw [hg]; exact Nat.ne_of_gt (blk_lt (g := gb249) (o := .cells #[.int .i64 t238, .string t239, .int .i64 t240, .slice Ao12 t241.length co12, .slice Ao13 t244.length co13] 28 (0, 0)) (qK BK249.out)) : gb283 ≠ gb249))
            have n15_ := qM ((by rw [hg]; exact Nat.ne_of_lt (blk_lt (g := gb261) (o := .cells #[.int .i64 t250, .string t251, .int .i64 t252, .slice Ao18 t253.length co18, .slice Ao19 t256.length co19] 28 (0, 0)) (qK BK261.out)) : gb261 ≠ gb283))
            have n16_ := qM ((by rw [hg]; exact Nat.ne_of_gt (blk_lt (g := gb261) (o := .cells #[.int .i64 t250, .string t251, .int .i64 t252, .slice Ao18 t253.length co18, .slice Ao19 t256.length co19] 28 (0, 0)) (qK BK261.out)) : gb283 ≠ gb261))
            have n17_ := qM ((by rw [hg]; exact Nat.ne_of_lt (blk_lt (g := gb273) (o := .cells #[.int .i64 t262, .string t263, .int .i64 t264, .slice Ao43 t265.length co43, .slice Ao44 t268.length co44] 28 (0, 0)) (qK BK273.out)) : gb273 ≠ gb283))
            have n18_ := qM ((by rw [hg]; exact Nat.ne_of_gt (blk_lt (g := gb273) (o := .cells #[.int .i64 t262, .string t263, .int .i64 t264, .slice Ao43 t265.length co43, .slice Ao44 t268.length co44] 28 (0, 0)) (qK BK273.out)) : gb283 ≠ gb273))
            clear HO_250003; clear HO_250004; clear HO_262003; clear HO_262004; clear HO267; clear HO270; clear BK249; clear BK261; clear BK273; clear HB
            have HO_250003 := n0_
            have HO_250004 := n1_
            have HO_262003 := n2_
            have HO_262004 := n3_
            have HO267 := n4_
            have HO270 := n5_
            have BK249 := n6_
            have BK261 := n7_
            have BK273 := n8_
            have HB := n9_
            have BK283 := n10_
            have GW283 := n11_
            have GE283 := n12_
            have NB249_283 := n13_
            have NB283_249 := n14_
            have NB261_283 := n15_
            have NB283_261 := n16_
            have NB273_283 := n17_
            have NB283_273 := n18_
            clear n0_ n1_ n2_ n3_ n4_ n5_ n6_ n7_ n8_ n9_ n10_ n11_ n12_ n13_ n14_ n15_ n16_ n17_ n18_; clear hb hbox hg
            refine hK.out _ _ ⟨(blk_cell BK249.out 0).trans rfl, (blk_cell BK249.out 1).trans rfl, (blk_cell BK249.out 2).trans rfl, (blk_cell BK249.out 3).trans rfl, (blk_cell BK249.out 4).trans rfl, (blk_cell BK261.out 0).trans rfl, (blk_cell BK261.out 1).trans rfl, (blk_cell BK261.out 2).trans rfl, (blk_cell BK261.out 3).trans rfl, (blk_cell BK261.out 4).trans rfl⟩ (fun hHeld => ?_)
            clear hK K
            refine norm_ (a' := ?_) ?_ ?_
            rotate_left
            ·
             show Act.put _ (some 14) _ = _
             simp only [Act.put, List.setIfInBounds_toArray, List.set_cons_zero, List.set_cons_succ, i64_w, i32_w]
             rfl
            refine one_ (i := 0) (N := some 54) #[true, true, true, false, true, true, false, false, true, false] rfl rfl (one_of HT_.out (by kernel_rfl)) (by decide) (fun K hK => ?_)
            refine Kd.N_lit_step k28 _ 28 ?hg (N' := 54) ?hd (xs := ([] : List (S28))) (inner := []) (ok := (fun k_ => some k_ ≠ (.slice Ao12 t241.length co12 : Value).ownBlock ∧ some k_ ≠ (.slice Ao13 t244.length co13 : Value).ownBlock ∧ some k_ ≠ (.slice Ao18 t253.length co18 : Value).ownBlock ∧ some k_ ≠ (.slice Ao19 t256.length co19 : Value).ownBlock ∧ some k_ ≠ (.slice Ao43 t265.length co43 : Value).ownBlock ∧ some k_ ≠ (.slice Ao44 t268.length co44 : Value).ownBlock ∧ k_ ≠ gb249 ∧ k_ ≠ gb261 ∧ k_ ≠ gb273 ∧ k_ ≠ gb283)) (okp := (fun k_ => some k_ ≠ (.slice Ao12 t241.length co12 : Value).ownBlock ∧ some k_ ≠ (.slice Ao13 t244.length co13 : Value).ownBlock ∧ some k_ ≠ (.slice Ao18 t253.length co18 : Value).ownBlock ∧ some k_ ≠ (.slice Ao19 t256.length co19 : Value).ownBlock ∧ some k_ ≠ (.slice Ao43 t265.length co43 : Value).ownBlock ∧ some k_ ≠ (.slice Ao44 t268.length co44 : Value).ownBlock ∧ k_ ≠ gb249 ∧ k_ ≠ gb261 ∧ k_ ≠ gb273 ∧ k_ ≠ gb283)) ?hr ?hp (fun _ hk => hk) ((show ∀ k_, w47.heap.size ≤ k_ → (fun k_ => some k_ ≠ (.slice Ao12 t241.length co12 : Value).ownBlock ∧ some k_ ≠ (.slice Ao13 t244.length co13 : Value).ownBlock ∧ some k_ ≠ (.slice Ao18 t253.length co18 : Value).ownBlock ∧ some k_ ≠ (.slice Ao19 t256.length co19 : Value).ownBlock ∧ some k_ ≠ (.slice Ao43 t265.length co43 : Value).ownBlock ∧ some k_ ≠ (.slice Ao44 t268.length co44 : Value).ownBlock ∧ k_ ≠ gb249 ∧ k_ ≠ gb261 ∧ k_ ≠ gb273 ∧ k_ ≠ gb283) k_ from fun k_ hk => ⟨Kd.fresh' (Kd.R_lt (qR HO_250003.out)) k_ hk, Kd.fresh' (Kd.N_lt (qN HO_250004.out)) k_ hk, Kd.fresh' (Kd.R_lt (qR HO_262003.out)) k_ hk, Kd.fresh' (Kd.N_lt (qN HO_262004.out)) k_ hk, Kd.fresh' (Kd.R_lt (qR HO267.out)) k_ hk, Kd.fresh' (Kd.N_lt (qN HO270.out)) k_ hk, Kd.freshB (g := gb249) (o := .cells #[.int .i64 t238, .string t239, .int .i64 t240, .slice Ao12 t241.length co12, .slice Ao13 t244.length co13] 28 (0, 0)) (qK BK249.out) k_ hk, Kd.freshB (g := gb261) (o := .cells #[.int .i64 t250, .string t251, .int .i64 t252, .slice Ao18 t253.length co18, .slice Ao19 t256.length co19] 28 (0, 0)) (qK BK261.out) k_ hk, Kd.freshB (g := gb273) (o := .cells #[.int .i64 t262, .string t263, .int .i64 t264, .slice Ao43 t265.length co43, .slice Ao44 t268.length co44] 28 (0, 0)) (qK BK273.out) k_ hk, Kd.freshB (g := gb283) (o := .cells #[.int .i64 0, .string (⟨#[]⟩ : ByteArray), .int .i64 0, .slice none 0 0, .slice none 0 0] 28 (0, 0)) (qK BK283.out) k_ hk⟩) _ (Nat.le_refl _)) (Below.refl _ _) (Nat.le_refl _) (by simp) ?_; (case hd => rfl); (case hg => rfl); (case hr => first | (go_simp; done) | (go_simp; rfl)); (case hp => exact (Reps.none _ _))
            intro v275 w48 ho49 hb hg_ hnew_
            clear hg_ hnew_
            (first | rw [← Ny274.out] at ho49 | (simp only [Int.reduceToNat] at ho49; rw [← Ny274.out] at ho49))
            have n0_ := qM (Kd.R_below (qR HO_250003.out) hb)
            have n1_ := qM (Kd.N_elder' (qN HO_250004.out) (Kd.N_base ho49) hb)
            have n2_ := qM (Kd.R_below (qR HO_262003.out) hb)
            have n3_ := qM (Kd.N_elder' (qN HO_262004.out) (Kd.N_base ho49) hb)
            have n4_ := qM (Kd.R_below (qR HO267.out) hb)
            have n5_ := qM (Kd.N_elder' (qN HO270.out) (Kd.N_base ho49) hb)
            have n6_ := qM (Kd.N_lower ho49 (below_size (by repeat (first | (with_reducible first | exact HB.out | apply below_alloc | apply pw_below_drewN | apply below_drew1 | refine below_set ?_ GE249.out | refine below_set ?_ GE261.out | refine below_set ?_ GE273.out | refine below_set ?_ GE283.out) | exact HB.out))))
            have n7_ := qM (blk_below (g := gb249) (o := .cells #[.int .i64 t238, .string t239, .int .i64 t240, .slice Ao12 t241.length co12, .slice Ao13 t244.length co13] 28 (0, 0)) (qK BK249.out) hb)
            have n8_ := qM (blk_below (g := gb261) (o := .cells #[.int .i64 t250, .string t251, .int .i64 t252, .slice Ao18 t253.length co18, .slice Ao19 t256.length co19] 28 (0, 0)) (qK BK261.out) hb)
            have n9_ := qM (blk_below (g := gb273) (o := .cells #[.int .i64 t262, .string t263, .int .i64 t264, .slice Ao43 t265.length co43, .slice Ao44 t268.length co44] 28 (0, 0)) (qK BK273.out) hb)
            have n10_ := qM (blk_below (g := gb283) (o := .cells #[.int .i64 0, .string (⟨#[]⟩ : ByteArray), .int .i64 0, .slice none 0 0, .slice none 0 0] 28 (0, 0)) (qK BK283.out) hb)
            have n11_ := qM (below_step (by repeat (first | (with_reducible first | exact HB.out | apply below_alloc | apply pw_below_drewN | apply below_drew1 | refine below_set ?_ GE249.out | refine below_set ?_ GE261.out | refine below_set ?_ GE273.out | refine below_set ?_ GE283.out) | exact HB.out)) hb)
            clear HO_250003; clear HO_250004; clear HO_262003; clear HO_262004; clear HO267; clear HO270; clear BK249; clear BK261; clear BK273; clear BK283; clear HB
            have HO_250003 := n0_
            have HO_250004 := n1_
            have HO_262003 := n2_
            have HO_262004 := n3_
            have HO267 := n4_
            have HO270 := n5_
            have HO276 := n6_
            have BK249 := n7_
            have BK261 := n8_
            have BK273 := n9_
            have BK283 := n10_
            have HB := n11_
            clear n0_ n1_ n2_ n3_ n4_ n5_ n6_ n7_ n8_ n9_ n10_ n11_; clear hb ho49
            refine hK.out _ _ ⟨(blk_cell BK249.out 0).trans rfl, (blk_cell BK249.out 1).trans rfl, (blk_cell BK249.out 2).trans rfl, (blk_cell BK249.out 3).trans rfl, (blk_cell BK249.out 4).trans rfl, (blk_cell BK261.out 0).trans rfl, (blk_cell BK261.out 1).trans rfl, (blk_cell BK261.out 2).trans rfl, (blk_cell BK261.out 3).trans rfl, (blk_cell BK261.out 4).trans rfl⟩ (fun hHeld => ?_)
            clear hK K
            refine norm_ (a' := ?_) ?_ ?_
            rotate_left
            ·
             show Act.put _ (some 54) _ = _
             simp only [Act.put, List.setIfInBounds_toArray, List.set_cons_zero, List.set_cons_succ, i64_w, i32_w]
             rfl
            refine one_ (i := 3) (N := some 57) #[true, true, true, true, true, true, false, false, true, false] rfl rfl (one_of HT_.out (by kernel_rfl)) (by decide) (fun K hK => ?_)
            refine Kd.N_append_rows_step k28 (w0 := w) w.heap.size (by rfl) (.tmp 54) (.tmp 56) 26 28 (.agg #[(.int .i64 0), (.string ⟨#[]⟩), (.int .i64 0), (.slice none 0 0), (.slice none 0 0)]) 80 rfl Tryd.underlying26 info28 rfl (by decide) (by omega) v275 y274 t244 _ _ _ (fun k_ => some k_ ≠ (.slice Ao12 t241.length co12 : Value).ownBlock ∧ some k_ ≠ (.slice Ao18 t253.length co18 : Value).ownBlock ∧ some k_ ≠ (.slice Ao19 t256.length co19 : Value).ownBlock ∧ some k_ ≠ (.slice Ao43 t265.length co43 : Value).ownBlock ∧ some k_ ≠ (.slice Ao44 t268.length co44 : Value).ownBlock ∧ k_ ≠ gb249 ∧ k_ ≠ gb261 ∧ k_ ≠ gb273 ∧ k_ ≠ gb283) (fun k_ => ((fun k_ => some k_ ≠ (.slice Ao12 t241.length co12 : Value).ownBlock ∧ some k_ ≠ (.slice Ao18 t253.length co18 : Value).ownBlock ∧ some k_ ≠ (.slice Ao19 t256.length co19 : Value).ownBlock ∧ some k_ ≠ (.slice Ao43 t265.length co43 : Value).ownBlock ∧ some k_ ≠ (.slice Ao44 t268.length co44 : Value).ownBlock ∧ k_ ≠ gb249 ∧ k_ ≠ gb261 ∧ k_ ≠ gb273 ∧ k_ ≠ gb283)) k_ ∧ some k_ ≠ (v275 : Value).ownBlock) rfl rfl ?aO ?aR (fun _ hk => hk) ?aF ?aB ?aS ?aL ?_
            (case aR => exact (by skip; exact Kd.N_F (Kd.N_mono (ok' := (fun k_ => ((fun k_ => some k_ ≠ (.slice Ao12 t241.length co12 : Value).ownBlock ∧ some k_ ≠ (.slice Ao18 t253.length co18 : Value).ownBlock ∧ some k_ ≠ (.slice Ao19 t256.length co19 : Value).ownBlock ∧ some k_ ≠ (.slice Ao43 t265.length co43 : Value).ownBlock ∧ some k_ ≠ (.slice Ao44 t268.length co44 : Value).ownBlock ∧ k_ ≠ gb249 ∧ k_ ≠ gb261 ∧ k_ ≠ gb273 ∧ k_ ≠ gb283)) k_ ∧ some k_ ≠ (v275 : Value).ownBlock)) (HO_250004.out) (fun k_ hk => ⟨⟨hk.1.1.1, ⟨hk.1.1.2.1, ⟨hk.1.1.2.2.1, ⟨hk.1.1.2.2.2.1, ⟨hk.1.1.2.2.2.2.1, ⟨hk.1.1.2.2.2.2.2.1, ⟨hk.1.1.2.2.2.2.2.2.1, ⟨hk.1.1.2.2.2.2.2.2.2, hk.1.2⟩⟩⟩⟩⟩⟩⟩⟩, hk.2⟩))))
            (case aB => exact (by repeat (first | (with_reducible first | exact HB.out | apply below_alloc | apply pw_below_drewN | apply below_drew1 | refine below_set ?_ GE249.out | refine below_set ?_ GE261.out | refine below_set ?_ GE273.out | refine below_set ?_ GE283.out) | exact HB.out)))
            (case aF => exact (fun k_ hk => ⟨Kd.fresh' (Kd.R_lt (qR HO_250003.out)) k_ hk, Kd.fresh' (Kd.R_lt (qR HO_262003.out)) k_ hk, Kd.fresh' (Kd.N_lt (qN HO_262004.out)) k_ hk, Kd.fresh' (Kd.R_lt (qR HO267.out)) k_ hk, Kd.fresh' (Kd.N_lt (qN HO270.out)) k_ hk, Kd.freshB (g := gb249) (o := .cells #[.int .i64 t238, .string t239, .int .i64 t240, .slice Ao12 t241.length co12, .slice Ao13 t244.length co13] 28 (0, 0)) (qK BK249.out) k_ hk, Kd.freshB (g := gb261) (o := .cells #[.int .i64 t250, .string t251, .int .i64 t252, .slice Ao18 t253.length co18, .slice Ao19 t256.length co19] 28 (0, 0)) (qK BK261.out) k_ hk, Kd.freshB (g := gb273) (o := .cells #[.int .i64 t262, .string t263, .int .i64 t264, .slice Ao43 t265.length co43, .slice Ao44 t268.length co44] 28 (0, 0)) (qK BK273.out) k_ hk, Kd.freshB (g := gb283) (o := .cells #[.int .i64 0, .string (⟨#[]⟩ : ByteArray), .int .i64 0, .slice none 0 0, .slice none 0 0] 28 (0, 0)) (qK BK283.out) k_ hk⟩))
            (case aO => exact (by (with_reducible repeat (first | apply Kd.N_alloc | apply Kd.N_drewN | apply Kd.N_drew)); exact Kd.N_mono HO276.out (fun _ hk => ⟨hk.1, ⟨hk.2.2.1, ⟨hk.2.2.2.1, ⟨hk.2.2.2.2.1, ⟨hk.2.2.2.2.2.1, ⟨hk.2.2.2.2.2.2.1, ⟨hk.2.2.2.2.2.2.2.1, ⟨hk.2.2.2.2.2.2.2.2.1, hk.2.2.2.2.2.2.2.2.2⟩⟩⟩⟩⟩⟩⟩⟩)))
            (case aS => exact (below_size (by repeat (first | (with_reducible first | exact HB.out | apply below_alloc | apply pw_below_drewN | apply below_drew1 | refine below_set ?_ GE249.out | refine below_set ?_ GE261.out | refine below_set ?_ GE273.out | refine below_set ?_ GE283.out) | exact HB.out))))
            (case aL => have := LMc34.out; omega)
            intro v278 w50 ho hb hg hat
            rw [← Ny277.out] at ho
            have n0_ := qM (Kd.R_over' (qR HO_250003.out) (Kd.N_typed (qN HO276.out)) (by decide) hg)
            have n1_ := qM (Kd.N_afterv (ok := (fun k_ => some k_ ≠ (.slice Ao12 t241.length co12 : Value).ownBlock ∧ some k_ ≠ (.slice Ao18 t253.length co18 : Value).ownBlock ∧ some k_ ≠ (.slice Ao19 t256.length co19 : Value).ownBlock ∧ some k_ ≠ (.slice Ao43 t265.length co43 : Value).ownBlock ∧ some k_ ≠ (.slice Ao44 t268.length co44 : Value).ownBlock ∧ k_ ≠ gb249 ∧ k_ ≠ gb261 ∧ k_ ≠ gb273 ∧ k_ ≠ gb283)) (by (with_reducible repeat (first | apply Kd.N_alloc | apply Kd.N_drewN | apply Kd.N_drew)); exact Kd.N_mono HO_250004.out (fun _ hk => ⟨⟨hk.1.1.1, ⟨hk.1.1.2.1, ⟨hk.1.1.2.2.1, ⟨hk.1.1.2.2.2.1, ⟨hk.1.1.2.2.2.2.1, ⟨hk.1.1.2.2.2.2.2.1, ⟨hk.1.1.2.2.2.2.2.2.1, ⟨hk.1.1.2.2.2.2.2.2.2, hk.1.2⟩⟩⟩⟩⟩⟩⟩⟩, hk.2⟩)) hg hat)
            have n2_ := qM (Kd.R_over' (qR HO_262003.out) (Kd.N_typed (qN HO276.out)) (by decide) hg)
            have n3_ := qM (Kd.N_afterv (ok := (fun k_ => some k_ ≠ (.slice Ao12 t241.length co12 : Value).ownBlock ∧ some k_ ≠ (.slice Ao13 t244.length co13 : Value).ownBlock ∧ some k_ ≠ (.slice Ao18 t253.length co18 : Value).ownBlock ∧ some k_ ≠ (.slice Ao43 t265.length co43 : Value).ownBlock ∧ some k_ ≠ (.slice Ao44 t268.length co44 : Value).ownBlock ∧ k_ ≠ gb249 ∧ k_ ≠ gb261 ∧ k_ ≠ gb273 ∧ k_ ≠ gb283)) (by (with_reducible repeat (first | apply Kd.N_alloc | apply Kd.N_drewN | apply Kd.N_drew)); exact Kd.N_mono HO_262004.out (fun _ hk => ⟨⟨hk.1.1.1, ⟨hk.1.1.2.1, ⟨hk.1.1.2.2.1, ⟨hk.1.1.2.2.2.1, ⟨hk.1.1.2.2.2.2.1, ⟨hk.1.1.2.2.2.2.2.1, ⟨hk.1.1.2.2.2.2.2.2.1, ⟨hk.1.1.2.2.2.2.2.2.2, hk.1.2⟩⟩⟩⟩⟩⟩⟩⟩, hk.2⟩)) hg hat)
            have n4_ := qM (blk_grown (g := gb249) (o := .cells #[.int .i64 t238, .string t239, .int .i64 t240, .slice Ao12 t241.length co12, .slice Ao13 t244.length co13] 28 (0, 0)) (qK BK249.out) hg (Kd.N_away HO276.out (fun _ hk => hk.2.2.2.2.2.2.1)))
            have n5_ := qM (blk_grown (g := gb261) (o := .cells #[.int .i64 t250, .string t251, .int .i64 t252, .slice Ao18 t253.length co18, .slice Ao19 t256.length co19] 28 (0, 0)) (qK BK261.out) hg (Kd.N_away HO276.out (fun _ hk => hk.2.2.2.2.2.2.2.1)))
            have n6_ := qM (Kd.R_over' (qR HO267.out) (Kd.N_typed (qN HO276.out)) (by decide) hg)
            have n7_ := qM (Kd.N_afterv (ok := (fun k_ => some k_ ≠ (.slice Ao12 t241.length co12 : Value).ownBlock ∧ some k_ ≠ (.slice Ao13 t244.length co13 : Value).ownBlock ∧ some k_ ≠ (.slice Ao18 t253.length co18 : Value).ownBlock ∧ some k_ ≠ (.slice Ao19 t256.length co19 : Value).ownBlock ∧ some k_ ≠ (.slice Ao43 t265.length co43 : Value).ownBlock ∧ k_ ≠ gb249 ∧ k_ ≠ gb261 ∧ k_ ≠ gb273 ∧ k_ ≠ gb283)) (by (with_reducible repeat (first | apply Kd.N_alloc | apply Kd.N_drewN | apply Kd.N_drew)); exact Kd.N_mono HO270.out (fun _ hk => ⟨⟨hk.1.1.1, ⟨hk.1.1.2.1, ⟨hk.1.1.2.2.1, ⟨hk.1.1.2.2.2.1, ⟨hk.1.1.2.2.2.2.1, ⟨hk.1.1.2.2.2.2.2.1, ⟨hk.1.1.2.2.2.2.2.2.1, ⟨hk.1.1.2.2.2.2.2.2.2, hk.1.2⟩⟩⟩⟩⟩⟩⟩⟩, hk.2⟩)) hg hat)
            have n8_ := qM (blk_grown (g := gb273) (o := .cells #[.int .i64 t262, .string t263, .int .i64 t264, .slice Ao43 t265.length co43, .slice Ao44 t268.length co44] 28 (0, 0)) (qK BK273.out) hg (Kd.N_away HO276.out (fun _ hk => hk.2.2.2.2.2.2.2.2.1)))
            have n9_ := qM (blk_grown (g := gb283) (o := .cells #[.int .i64 0, .string (⟨#[]⟩ : ByteArray), .int .i64 0, .slice none 0 0, .slice none 0 0] 28 (0, 0)) (qK BK283.out) hg (Kd.N_away HO276.out (fun _ hk => hk.2.2.2.2.2.2.2.2.2)))
            have n10_ := qM (hb)
            have n11_ := qM (ho)
            clear HO_250003; clear HO_250004; clear HO_262003; clear HO_262004; clear BK249; clear BK261; clear HO267; clear HO270; clear BK273; clear BK283; clear HB; clear HO276
            have HO_250003 := n0_
            have HO_250004 := n1_
            have HO_262003 := n2_
            have HO_262004 := n3_
            have BK249 := n4_
            have BK261 := n5_
            have HO267 := n6_
            have HO270 := n7_
            have BK273 := n8_
            have BK283 := n9_
            have HB := n10_
            have HO279 := n11_
            clear n0_ n1_ n2_ n3_ n4_ n5_ n6_ n7_ n8_ n9_ n10_ n11_; clear ho hb hg hat
            refine hK.out _ _ ⟨(blk_cell BK249.out 0).trans rfl, (blk_cell BK249.out 1).trans rfl, (blk_cell BK249.out 2).trans rfl, (blk_cell BK249.out 3).trans rfl, (blk_cell BK249.out 4).trans rfl, (blk_cell BK261.out 0).trans rfl, (blk_cell BK261.out 1).trans rfl, (blk_cell BK261.out 2).trans rfl, (blk_cell BK261.out 3).trans rfl, (blk_cell BK261.out 4).trans rfl⟩ (fun hHeld => ?_)
            clear hK K
            refine norm_ (a' := ?_) ?_ ?_
            rotate_left
            ·
             show Act.put _ (some 57) _ = _
             simp only [Act.put, List.setIfInBounds_toArray, List.set_cons_zero, List.set_cons_succ, i64_w, i32_w]
             rfl
            refine one_ (i := 6) (N := some 60) #[true, true, true, true, true, true, true, false, true, false] rfl rfl (one_of HT_.out (by kernel_rfl)) (by decide) (fun K hK => ?_)
            refine Kd.N_append_rows_step k28 (w0 := w) w.heap.size (by rfl) (.tmp 57) (.tmp 59) 26 28 (.agg #[(.int .i64 0), (.string ⟨#[]⟩), (.int .i64 0), (.slice none 0 0), (.slice none 0 0)]) 80 rfl Tryd.underlying26 info28 rfl (by decide) (by omega) v278 y277 t256 _ _ _ (fun k_ => some k_ ≠ (.slice Ao12 t241.length co12 : Value).ownBlock ∧ some k_ ≠ (.slice Ao18 t253.length co18 : Value).ownBlock ∧ some k_ ≠ (.slice Ao43 t265.length co43 : Value).ownBlock ∧ some k_ ≠ (.slice Ao44 t268.length co44 : Value).ownBlock ∧ k_ ≠ gb249 ∧ k_ ≠ gb261 ∧ k_ ≠ gb273 ∧ k_ ≠ gb283) (fun k_ => ((fun k_ => some k_ ≠ (.slice Ao12 t241.length co12 : Value).ownBlock ∧ some k_ ≠ (.slice Ao18 t253.length co18 : Value).ownBlock ∧ some k_ ≠ (.slice Ao43 t265.length co43 : Value).ownBlock ∧ some k_ ≠ (.slice Ao44 t268.length co44 : Value).ownBlock ∧ k_ ≠ gb249 ∧ k_ ≠ gb261 ∧ k_ ≠ gb273 ∧ k_ ≠ gb283)) k_ ∧ some k_ ≠ (v278 : Value).ownBlock) rfl rfl ?aO ?aR (fun _ hk => hk) ?aF ?aB ?aS ?aL ?_
            (case aR => exact (by skip; exact Kd.N_F (Kd.N_mono (ok' := (fun k_ => ((fun k_ => some k_ ≠ (.slice Ao12 t241.length co12 : Value).ownBlock ∧ some k_ ≠ (.slice Ao18 t253.length co18 : Value).ownBlock ∧ some k_ ≠ (.slice Ao43 t265.length co43 : Value).ownBlock ∧ some k_ ≠ (.slice Ao44 t268.length co44 : Value).ownBlock ∧ k_ ≠ gb249 ∧ k_ ≠ gb261 ∧ k_ ≠ gb273 ∧ k_ ≠ gb283)) k_ ∧ some k_ ≠ (v278 : Value).ownBlock)) (HO_262004.out) (fun k_ hk => ⟨⟨hk.1.1, ⟨hk.1.2.2.1, ⟨hk.1.2.2.2.1, ⟨hk.1.2.2.2.2.1, ⟨hk.1.2.2.2.2.2.1, ⟨hk.1.2.2.2.2.2.2.1, ⟨hk.1.2.2.2.2.2.2.2.1, hk.1.2.2.2.2.2.2.2.2⟩⟩⟩⟩⟩⟩⟩, hk.2⟩))))
            (case aB => exact (by repeat (first | (with_reducible first | exact HB.out | apply below_alloc | apply pw_below_drewN | apply below_drew1 | refine below_set ?_ GE249.out | refine below_set ?_ GE261.out | refine below_set ?_ GE273.out | refine below_set ?_ GE283.out) | exact HB.out)))
            (case aF => exact (fun k_ hk => ⟨Kd.fresh' (Kd.R_lt (qR HO_250003.out)) k_ hk, Kd.fresh' (Kd.R_lt (qR HO_262003.out)) k_ hk, Kd.fresh' (Kd.R_lt (qR HO267.out)) k_ hk, Kd.fresh' (Kd.N_lt (qN HO270.out)) k_ hk, Kd.freshB (g := gb249) (o := .cells #[.int .i64 t238, .string t239, .int .i64 t240, .slice Ao12 t241.length co12, .slice Ao13 t244.length co13] 28 (0, 0)) (qK BK249.out) k_ hk, Kd.freshB (g := gb261) (o := .cells #[.int .i64 t250, .string t251, .int .i64 t252, .slice Ao18 t253.length co18, .slice Ao19 t256.length co19] 28 (0, 0)) (qK BK261.out) k_ hk, Kd.freshB (g := gb273) (o := .cells #[.int .i64 t262, .string t263, .int .i64 t264, .slice Ao43 t265.length co43, .slice Ao44 t268.length co44] 28 (0, 0)) (qK BK273.out) k_ hk, Kd.freshB (g := gb283) (o := .cells #[.int .i64 0, .string (⟨#[]⟩ : ByteArray), .int .i64 0, .slice none 0 0, .slice none 0 0] 28 (0, 0)) (qK BK283.out) k_ hk⟩))
            (case aO => exact (by (with_reducible repeat (first | apply Kd.N_alloc | apply Kd.N_drewN | apply Kd.N_drew)); exact Kd.N_mono HO279.out (fun _ hk => ⟨hk.1, ⟨hk.2.1, ⟨hk.2.2.2.1, ⟨hk.2.2.2.2.1, ⟨hk.2.2.2.2.2.1, ⟨hk.2.2.2.2.2.2.1, ⟨hk.2.2.2.2.2.2.2.1, hk.2.2.2.2.2.2.2.2⟩⟩⟩⟩⟩⟩⟩)))
            (case aS => exact (below_size (by repeat (first | (with_reducible first | exact HB.out | apply below_alloc | apply pw_below_drewN | apply below_drew1 | refine below_set ?_ GE249.out | refine below_set ?_ GE261.out | refine below_set ?_ GE273.out | refine below_set ?_ GE283.out) | exact HB.out))))
            (case aL => have := LMc35.out; omega)
            intro v281 w51 ho hb hg hat
            rw [← Ny280.out] at ho
            have n0_ := qM (Kd.R_over' (qR HO_250003.out) (Kd.N_typed (qN HO279.out)) (by decide) hg)
            have n1_ := qM (Kd.N_afterv (ok := (fun k_ => some k_ ≠ (.slice Ao12 t241.length co12 : Value).ownBlock ∧ some k_ ≠ (.slice Ao18 t253.length co18 : Value).ownBlock ∧ some k_ ≠ (.slice Ao19 t256.length co19 : Value).ownBlock ∧ some k_ ≠ (.slice Ao43 t265.length co43 : Value).ownBlock ∧ some k_ ≠ (.slice Ao44 t268.length co44 : Value).ownBlock ∧ k_ ≠ gb249 ∧ k_ ≠ gb261 ∧ k_ ≠ gb273 ∧ k_ ≠ gb283)) (qN HO_250004.out) hg hat)
            have n2_ := qM (Kd.R_over' (qR HO_262003.out) (Kd.N_typed (qN HO279.out)) (by decide) hg)
            have n3_ := qM (Kd.N_afterv (ok := (fun k_ => some k_ ≠ (.slice Ao12 t241.length co12 : Value).ownBlock ∧ some k_ ≠ (.slice Ao13 t244.length co13 : Value).ownBlock ∧ some k_ ≠ (.slice Ao18 t253.length co18 : Value).ownBlock ∧ some k_ ≠ (.slice Ao43 t265.length co43 : Value).ownBlock ∧ some k_ ≠ (.slice Ao44 t268.length co44 : Value).ownBlock ∧ k_ ≠ gb249 ∧ k_ ≠ gb261 ∧ k_ ≠ gb273 ∧ k_ ≠ gb283)) (qN HO_262004.out) hg hat)
            have n4_ := qM (blk_grown (g := gb249) (o := .cells #[.int .i64 t238, .string t239, .int .i64 t240, .slice Ao12 t241.length co12, .slice Ao13 t244.length co13] 28 (0, 0)) (qK BK249.out) hg (Kd.N_away HO279.out (fun _ hk => hk.2.2.2.2.2.1)))
            have n5_ := qM (blk_grown (g := gb261) (o := .cells #[.int .i64 t250, .string t251, .int .i64 t252, .slice Ao18 t253.length co18, .slice Ao19 t256.length co19] 28 (0, 0)) (qK BK261.out) hg (Kd.N_away HO279.out (fun _ hk => hk.2.2.2.2.2.2.1)))
            have n6_ := qM (Kd.R_over' (qR HO267.out) (Kd.N_typed (qN HO279.out)) (by decide) hg)
            have n7_ := qM (Kd.N_afterv (ok := (fun k_ => some k_ ≠ (.slice Ao12 t241.length co12 : Value).ownBlock ∧ some k_ ≠ (.slice Ao13 t244.length co13 : Value).ownBlock ∧ some k_ ≠ (.slice Ao18 t253.length co18 : Value).ownBlock ∧ some k_ ≠ (.slice Ao19 t256.length co19 : Value).ownBlock ∧ some k_ ≠ (.slice Ao43 t265.length co43 : Value).ownBlock ∧ k_ ≠ gb249 ∧ k_ ≠ gb261 ∧ k_ ≠ gb273 ∧ k_ ≠ gb283)) (qN HO270.out) hg hat)
            have n8_ := qM (blk_grown (g := gb273) (o := .cells #[.int .i64 t262, .string t263, .int .i64 t264, .slice Ao43 t265.length co43, .slice Ao44 t268.length co44] 28 (0, 0)) (qK BK273.out) hg (Kd.N_away HO279.out (fun _ hk => hk.2.2.2.2.2.2.2.1)))
            have n9_ := qM (blk_grown (g := gb283) (o := .cells #[.int .i64 0, .string (⟨#[]⟩ : ByteArray), .int .i64 0, .slice none 0 0, .slice none 0 0] 28 (0, 0)) (qK BK283.out) hg (Kd.N_away HO279.out (fun _ hk => hk.2.2.2.2.2.2.2.2)))
            have n10_ := qM (hb)
            have n11_ := qM (ho)
            clear HO_250003; clear HO_250004; clear HO_262003; clear HO_262004; clear BK249; clear BK261; clear HO267; clear HO270; clear BK273; clear BK283; clear HB; clear HO279
            have HO_250003 := n0_
            have HO_250004 := n1_
            have HO_262003 := n2_
            have HO_262004 := n3_
            have BK249 := n4_
            have BK261 := n5_
            have HO267 := n6_
            have HO270 := n7_
            have BK273 := n8_
            have BK283 := n9_
            have HB := n10_
            have HO282 := n11_
            clear n0_ n1_ n2_ n3_ n4_ n5_ n6_ n7_ n8_ n9_ n10_ n11_; clear ho hb hg hat
            obtain ⟨Ao52, co52, eo52⟩ := Kd.N_slice HO282.out
            (first | subst eo52 | (injection eo52 with f1_ f2_ f3_; have f4_ := f1_.symm; have f5_ := f3_.symm; clear f1_ f2_ f3_; subst f4_; subst f5_))
            refine hK.out _ _ ⟨(blk_cell BK249.out 0).trans rfl, (blk_cell BK249.out 1).trans rfl, (blk_cell BK249.out 2).trans rfl, (blk_cell BK249.out 3).trans rfl, (blk_cell BK249.out 4).trans rfl, (blk_cell BK261.out 0).trans rfl, (blk_cell BK261.out 1).trans rfl, (blk_cell BK261.out 2).trans rfl, (blk_cell BK261.out 3).trans rfl, (blk_cell BK261.out 4).trans rfl⟩ (fun hHeld => ?_)
            clear hK K
            refine norm_ (a' := ?_) ?_ ?_
            rotate_left
            ·
             show Act.put _ (some 60) _ = _
             simp only [Act.put, List.setIfInBounds_toArray, List.set_cons_zero, List.set_cons_succ, i64_w, i32_w]
             rfl
            refine pure_ (i := 7) (N := some 61) (v := ?_) (a' := ?_) #[true, true, true, true, true, true, true, true, true, false] rfl rfl (any_of HT_.out (by kernel_rfl)) (fun _ _ _ h => h) (Or.inl ⟨by rfl, ?_⟩) ?_ ?_
            rotate_left
            · intro w'; go_simp; with_reducible rfl
            rotate_left
            ·
             simp only [Act.put, List.setIfInBounds_toArray, List.set_cons_zero, List.set_cons_succ, i64_w, i32_w]
             rfl
            exact norm_ (by simp only [putAll, Act.put, List.setIfInBounds_toArray, List.set_cons_zero, List.set_cons_succ]) (hCont (v275, v278, .slice Ao52 y280.length co52, gb283) _ ⟨hHeld, (qR HO267.out), (by (with_reducible repeat (first | apply Kd.N_alloc | apply Kd.N_drewN | apply Kd.N_drew)); exact Kd.N_mono HO270.out (fun _ hk => ⟨hk.1.2.2.2.2.1, ⟨hk.2, ⟨hk.1.1, ⟨hk.1.2.1, ⟨hk.1.2.2.1, ⟨hk.1.2.2.2.1, ⟨hk.1.2.2.2.2.2.1, ⟨hk.1.2.2.2.2.2.2.1, ⟨hk.1.2.2.2.2.2.2.2.1, hk.1.2.2.2.2.2.2.2.2⟩⟩⟩⟩⟩⟩⟩⟩⟩)), (by (with_reducible repeat (first | apply Kd.N_alloc | apply Kd.N_drewN | apply Kd.N_drew)); exact Kd.N_mono HO282.out (fun _ hk => ⟨hk.2.2.1, ⟨hk.2.2.2.1, ⟨hk.1, ⟨hk.2.1, ⟨hk.2.2.2.2.1, ⟨hk.2.2.2.2.2.1, ⟨hk.2.2.2.2.2.2.1, hk.2.2.2.2.2.2.2⟩⟩⟩⟩⟩⟩⟩)), (by (with_reducible repeat (first | apply Kd.R_alloc | apply Kd.R_drewN | apply Kd.R_drew)); exact Kd.R_mono HO_250003.out (fun _ hk => ⟨hk.2, hk.1⟩)), (by (with_reducible repeat (first | apply Kd.N_alloc | apply Kd.N_drewN | apply Kd.N_drew)); exact Kd.N_mono HO_250004.out (fun _ hk => ⟨hk.1.2.2.2.1, ⟨hk.1.2.2.2.2.1, ⟨hk.2, ⟨hk.1.1, ⟨hk.1.2.1, ⟨hk.1.2.2.1, ⟨hk.1.2.2.2.2.2.1, ⟨hk.1.2.2.2.2.2.2.1, ⟨hk.1.2.2.2.2.2.2.2.1, hk.1.2.2.2.2.2.2.2.2⟩⟩⟩⟩⟩⟩⟩⟩⟩)), (by (with_reducible repeat (first | apply Kd.R_alloc | apply Kd.R_drewN | apply Kd.R_drew)); exact Kd.R_mono HO_262003.out (fun _ hk => ⟨hk.2, hk.1⟩)), (by (with_reducible repeat (first | apply Kd.N_alloc | apply Kd.N_drewN | apply Kd.N_drew)); exact Kd.N_mono HO_262004.out (fun _ hk => ⟨hk.1.2.2.2.1, ⟨hk.1.2.2.2.2.1, ⟨hk.2, ⟨hk.1.1, ⟨hk.1.2.1, ⟨hk.1.2.2.1, ⟨hk.1.2.2.2.2.2.1, ⟨hk.1.2.2.2.2.2.2.1, ⟨hk.1.2.2.2.2.2.2.2.1, hk.1.2.2.2.2.2.2.2.2⟩⟩⟩⟩⟩⟩⟩⟩⟩)), (qK BK249.out), (qK BK261.out), (qK BK273.out), (qK BK283.out), GW283.out, GE283.out, NB249_283.out, NB283_249.out, NB261_283.out, NB283_261.out, NB273_283.out, NB283_273.out, (by repeat (first | (with_reducible first | exact HB.out | apply below_alloc | apply pw_below_drewN | apply below_drew1 | refine below_set ?_ GE249.out | refine below_set ?_ GE261.out | refine below_set ?_ GE273.out | refine below_set ?_ GE283.out) | exact HB.out))⟩)
          rintro ⟨v275, v278, v281, gb283⟩ w53 ⟨hS_, h0_, h1_, h2_, h3_, h4_, h5_, h6_, h7_, h8_, h9_, h10_, h11_, h12_, h13_, h14_, h15_, h16_, h17_, h18_, h19_⟩
          have n0_ : Aside0 (Kd.R (Kd.int .u8) 5 w53 w.heap.size (fun k_ => some k_ ≠ (.slice Ao12 t241.length co12 : Value).ownBlock ∧ some k_ ≠ (.slice Ao18 t253.length co18 : Value).ownBlock) (.slice Ao43 t265.length co43) t265) := ⟨h0_⟩
          have n1_ : Aside0 (Kd.N k28 28 w53 w.heap.size (fun k_ => some k_ ≠ (.slice Ao43 t265.length co43 : Value).ownBlock ∧ some k_ ≠ (v281 : Value).ownBlock ∧ some k_ ≠ (.slice Ao12 t241.length co12 : Value).ownBlock ∧ some k_ ≠ (.slice Ao13 t244.length co13 : Value).ownBlock ∧ some k_ ≠ (.slice Ao18 t253.length co18 : Value).ownBlock ∧ some k_ ≠ (.slice Ao19 t256.length co19 : Value).ownBlock ∧ k_ ≠ gb249 ∧ k_ ≠ gb261 ∧ k_ ≠ gb273 ∧ k_ ≠ gb283) (.slice Ao44 t268.length co44) t268) := ⟨h1_⟩
          have n2_ : Aside0 (Kd.N k28 28 w53 w.heap.size (fun k_ => some k_ ≠ (.slice Ao43 t265.length co43 : Value).ownBlock ∧ some k_ ≠ (.slice Ao44 t268.length co44 : Value).ownBlock ∧ some k_ ≠ (.slice Ao12 t241.length co12 : Value).ownBlock ∧ some k_ ≠ (.slice Ao18 t253.length co18 : Value).ownBlock ∧ k_ ≠ gb249 ∧ k_ ≠ gb261 ∧ k_ ≠ gb273 ∧ k_ ≠ gb283) v281 y280) := ⟨h2_⟩
          have n3_ : Aside0 (Kd.R (Kd.int .u8) 5 w53 w.heap.size (fun k_ => some k_ ≠ (.slice Ao43 t265.length co43 : Value).ownBlock ∧ some k_ ≠ (.slice Ao18 t253.length co18 : Value).ownBlock) (.slice Ao12 t241.length co12) t241) := ⟨h3_⟩
          have n4_ : Aside0 (Kd.N k28 28 w53 w.heap.size (fun k_ => some k_ ≠ (.slice Ao43 t265.length co43 : Value).ownBlock ∧ some k_ ≠ (.slice Ao44 t268.length co44 : Value).ownBlock ∧ some k_ ≠ (v281 : Value).ownBlock ∧ some k_ ≠ (.slice Ao12 t241.length co12 : Value).ownBlock ∧ some k_ ≠ (.slice Ao18 t253.length co18 : Value).ownBlock ∧ some k_ ≠ (.slice Ao19 t256.length co19 : Value).ownBlock ∧ k_ ≠ gb249 ∧ k_ ≠ gb261 ∧ k_ ≠ gb273 ∧ k_ ≠ gb283) (.slice Ao13 t244.length co13) t244) := ⟨h4_⟩
          have n5_ : Aside0 (Kd.R (Kd.int .u8) 5 w53 w.heap.size (fun k_ => some k_ ≠ (.slice Ao43 t265.length co43 : Value).ownBlock ∧ some k_ ≠ (.slice Ao12 t241.length co12 : Value).ownBlock) (.slice Ao18 t253.length co18) t253) := ⟨h5_⟩
          have n6_ : Aside0 (Kd.N k28 28 w53 w.heap.size (fun k_ => some k_ ≠ (.slice Ao43 t265.length co43 : Value).ownBlock ∧ some k_ ≠ (.slice Ao44 t268.length co44 : Value).ownBlock ∧ some k_ ≠ (v281 : Value).ownBlock ∧ some k_ ≠ (.slice Ao12 t241.length co12 : Value).ownBlock ∧ some k_ ≠ (.slice Ao13 t244.length co13 : Value).ownBlock ∧ some k_ ≠ (.slice Ao18 t253.length co18 : Value).ownBlock ∧ k_ ≠ gb249 ∧ k_ ≠ gb261 ∧ k_ ≠ gb273 ∧ k_ ≠ gb283) (.slice Ao19 t256.length co19) t256) := ⟨h6_⟩
          have n7_ : Aside0 (w53.heap[gb249]? = some (.cells #[.int .i64 t238, .string t239, .int .i64 t240, .slice Ao12 t241.length co12, .slice Ao13 t244.length co13] 28 (0, 0))) := ⟨h7_⟩
          have n8_ : Aside0 (w53.heap[gb261]? = some (.cells #[.int .i64 t250, .string t251, .int .i64 t252, .slice Ao18 t253.length co18, .slice Ao19 t256.length co19] 28 (0, 0))) := ⟨h8_⟩
          have n9_ : Aside0 (w53.heap[gb273]? = some (.cells #[.int .i64 t262, .string t263, .int .i64 t264, .slice Ao43 t265.length co43, .slice Ao44 t268.length co44] 28 (0, 0))) := ⟨h9_⟩
          have n10_ : Aside0 (w53.heap[gb283]? = some (.cells #[.int .i64 0, .string (⟨#[]⟩ : ByteArray), .int .i64 0, .slice none 0 0, .slice none 0 0] 28 (0, 0))) := ⟨h10_⟩
          have n11_ : Aside0 (w.heap.size ≤ gb283) := ⟨h11_⟩
          have n12_ : Aside0 (w.heap.size ≤ gb283) := ⟨h12_⟩
          have n13_ : Aside0 (gb249 ≠ gb283) := ⟨h13_⟩
          have n14_ : Aside0 (gb283 ≠ gb249) := ⟨h14_⟩
          have n15_ : Aside0 (gb261 ≠ gb283) := ⟨h15_⟩
          have n16_ : Aside0 (gb283 ≠ gb261) := ⟨h16_⟩
          have n17_ : Aside0 (gb273 ≠ gb283) := ⟨h17_⟩
          have n18_ : Aside0 (gb283 ≠ gb273) := ⟨h18_⟩
          have n19_ : Aside0 (Below w.heap.size w w53) := ⟨h19_⟩
          clear HO_250003; clear HO_250004; clear HO_262003; clear HO_262004; clear HO267; clear HO270; clear BK249; clear BK261; clear BK273; clear HB; clear h0_ h1_ h2_ h3_ h4_ h5_ h6_ h7_ h8_ h9_ h10_ h11_ h12_ h13_ h14_ h15_ h16_ h17_ h18_ h19_
          have HO267 := n0_
          have HO270 := n1_
          have HO282 := n2_
          have HO_250003 := n3_
          have HO_250004 := n4_
          have HO_262003 := n5_
          have HO_262004 := n6_
          have BK249 := n7_
          have BK261 := n8_
          have BK273 := n9_
          have BK283 := n10_
          have GW283 := n11_
          have GE283 := n12_
          have NB249_283 := n13_
          have NB283_249 := n14_
          have NB261_283 := n15_
          have NB283_261 := n16_
          have NB273_283 := n17_
          have NB283_273 := n18_
          have HB := n19_
          clear n0_ n1_ n2_ n3_ n4_ n5_ n6_ n7_ n8_ n9_ n10_ n11_ n12_ n13_ n14_ n15_ n16_ n17_ n18_ n19_
          have hHeld : w53.cell? ⟨gb249, 0, none⟩ = some (.int .i64 t238) ∧ w53.cell? ⟨gb249, 1, none⟩ = some (.string t239) ∧ w53.cell? ⟨gb249, 2, none⟩ = some (.int .i64 t240) ∧ w53.cell? ⟨gb249, 3, none⟩ = some (.slice Ao12 t241.length co12) ∧ w53.cell? ⟨gb249, 4, none⟩ = some (.slice Ao13 t244.length co13) ∧ w53.cell? ⟨gb261, 0, none⟩ = some (.int .i64 t250) ∧ w53.cell? ⟨gb261, 1, none⟩ = some (.string t251) ∧ w53.cell? ⟨gb261, 2, none⟩ = some (.int .i64 t252) ∧ w53.cell? ⟨gb261, 3, none⟩ = some (.slice Ao18 t253.length co18) ∧ w53.cell? ⟨gb261, 4, none⟩ = some (.slice Ao19 t256.length co19) := hS_
          obtain ⟨Ao54, co54, eo54⟩ := Kd.N_slice HO282.out
          (first | subst eo54 | (injection eo54 with f1_ f2_ f3_; have f4_ := f1_.symm; have f5_ := f3_.symm; clear f1_ f2_ f3_; subst f4_; subst f5_))
          refine norm_ (a' := ?_) ?_ ?_
          rotate_left
          ·
           simp only [putAll, Act.put, List.setIfInBounds_toArray, List.set_cons_zero, List.set_cons_succ]
           rfl
          refine one_ (i := 9) (N := none) #[true, true, true, true, true, true, true, true, true, true] rfl rfl (one_of HT_.out (by kernel_rfl)) (by decide) (fun K hK => ?_)
          have hs55 : w53.cell? ⟨gb283, 0, none⟩ = some (.int .i64 0) := (blk_cell BK283.out 0).trans rfl
          have hfs55 := blk_frozen BK283.out 0
          have hns55_0 := NB249_283.out
          have hns55_1 := NB261_283.out
          have hns55_2 := NB273_283.out
          have hms55_0 := NB283_249.out
          have hms55_1 := NB283_261.out
          have hms55_2 := NB283_273.out
          have hs56 : w53.cell? ⟨gb283, 1, none⟩ = some (.string (⟨#[]⟩ : ByteArray)) := (blk_cell BK283.out 1).trans rfl
          have hfs56 := blk_frozen BK283.out 1
          have hns56_0 := NB249_283.out
          have hns56_1 := NB261_283.out
          have hns56_2 := NB273_283.out
          have hms56_0 := NB283_249.out
          have hms56_1 := NB283_261.out
          have hms56_2 := NB283_273.out
          have hs57 : w53.cell? ⟨gb283, 2, none⟩ = some (.int .i64 0) := (blk_cell BK283.out 2).trans rfl
          have hfs57 := blk_frozen BK283.out 2
          have hns57_0 := NB249_283.out
          have hns57_1 := NB261_283.out
          have hns57_2 := NB273_283.out
          have hms57_0 := NB283_249.out
          have hms57_1 := NB283_261.out
          have hms57_2 := NB283_273.out
          have hs58 : w53.cell? ⟨gb283, 3, none⟩ = some (.slice none 0 0) := (blk_cell BK283.out 3).trans rfl
          have hfs58 := blk_frozen BK283.out 3
          have hns58_0 := NB249_283.out
          have hns58_1 := NB261_283.out
          have hns58_2 := NB273_283.out
          have hms58_0 := NB283_249.out
          have hms58_1 := NB283_261.out
          have hms58_2 := NB283_273.out
          have hs59 : w53.cell? ⟨gb283, 4, none⟩ = some (.slice none 0 0) := (blk_cell BK283.out 4).trans rfl
          have hfs59 := blk_frozen BK283.out 4
          have hns59_0 := NB249_283.out
          have hns59_1 := NB261_283.out
          have hns59_2 := NB273_283.out
          have hms59_0 := NB283_249.out
          have hms59_1 := NB283_261.out
          have hms59_2 := NB283_273.out
          refine skip_ (w1 := ?_) (by rfl) rfl ?_ ?_
          rotate_left
          ·
           go_simp
           rfl
          refine hK.out _ _ ⟨((cell_far (p := ⟨gb283, _, none⟩) NB249_283.out _).trans (((cell_far (p := ⟨gb283, _, none⟩) NB249_283.out _).trans (((cell_far (p := ⟨gb283, _, none⟩) NB249_283.out _).trans (((cell_far (p := ⟨gb283, _, none⟩) NB249_283.out _).trans (((cell_far (p := ⟨gb283, _, none⟩) NB249_283.out _).trans (hHeld.1)))))))))), ((cell_far (p := ⟨gb283, _, none⟩) NB249_283.out _).trans (((cell_far (p := ⟨gb283, _, none⟩) NB249_283.out _).trans (((cell_far (p := ⟨gb283, _, none⟩) NB249_283.out _).trans (((cell_far (p := ⟨gb283, _, none⟩) NB249_283.out _).trans (((cell_far (p := ⟨gb283, _, none⟩) NB249_283.out _).trans (hHeld.2.1)))))))))), ((cell_far (p := ⟨gb283, _, none⟩) NB249_283.out _).trans (((cell_far (p := ⟨gb283, _, none⟩) NB249_283.out _).trans (((cell_far (p := ⟨gb283, _, none⟩) NB249_283.out _).trans (((cell_far (p := ⟨gb283, _, none⟩) NB249_283.out _).trans (((cell_far (p := ⟨gb283, _, none⟩) NB249_283.out _).trans (hHeld.2.2.1)))))))))), ((cell_far (p := ⟨gb283, _, none⟩) NB249_283.out _).trans (((cell_far (p := ⟨gb283, _, none⟩) NB249_283.out _).trans (((cell_far (p := ⟨gb283, _, none⟩) NB249_283.out _).trans (((cell_far (p := ⟨gb283, _, none⟩) NB249_283.out _).trans (((cell_far (p := ⟨gb283, _, none⟩) NB249_283.out _).trans (hHeld.2.2.2.1)))))))))), ((cell_far (p := ⟨gb283, _, none⟩) NB249_283.out _).trans (((cell_far (p := ⟨gb283, _, none⟩) NB249_283.out _).trans (((cell_far (p := ⟨gb283, _, none⟩) NB249_283.out _).trans (((cell_far (p := ⟨gb283, _, none⟩) NB249_283.out _).trans (((cell_far (p := ⟨gb283, _, none⟩) NB249_283.out _).trans (hHeld.2.2.2.2.1)))))))))), ((cell_far (p := ⟨gb283, _, none⟩) NB261_283.out _).trans (((cell_far (p := ⟨gb283, _, none⟩) NB261_283.out _).trans (((cell_far (p := ⟨gb283, _, none⟩) NB261_283.out _).trans (((cell_far (p := ⟨gb283, _, none⟩) NB261_283.out _).trans (((cell_far (p := ⟨gb283, _, none⟩) NB261_283.out _).trans (hHeld.2.2.2.2.2.1)))))))))), ((cell_far (p := ⟨gb283, _, none⟩) NB261_283.out _).trans (((cell_far (p := ⟨gb283, _, none⟩) NB261_283.out _).trans (((cell_far (p := ⟨gb283, _, none⟩) NB261_283.out _).trans (((cell_far (p := ⟨gb283, _, none⟩) NB261_283.out _).trans (((cell_far (p := ⟨gb283, _, none⟩) NB261_283.out _).trans (hHeld.2.2.2.2.2.2.1)))))))))), ((cell_far (p := ⟨gb283, _, none⟩) NB261_283.out _).trans (((cell_far (p := ⟨gb283, _, none⟩) NB261_283.out _).trans (((cell_far (p := ⟨gb283, _, none⟩) NB261_283.out _).trans (((cell_far (p := ⟨gb283, _, none⟩) NB261_283.out _).trans (((cell_far (p := ⟨gb283, _, none⟩) NB261_283.out _).trans (hHeld.2.2.2.2.2.2.2.1)))))))))), ((cell_far (p := ⟨gb283, _, none⟩) NB261_283.out _).trans (((cell_far (p := ⟨gb283, _, none⟩) NB261_283.out _).trans (((cell_far (p := ⟨gb283, _, none⟩) NB261_283.out _).trans (((cell_far (p := ⟨gb283, _, none⟩) NB261_283.out _).trans (((cell_far (p := ⟨gb283, _, none⟩) NB261_283.out _).trans (hHeld.2.2.2.2.2.2.2.2.1)))))))))), ((cell_far (p := ⟨gb283, _, none⟩) NB261_283.out _).trans (((cell_far (p := ⟨gb283, _, none⟩) NB261_283.out _).trans (((cell_far (p := ⟨gb283, _, none⟩) NB261_283.out _).trans (((cell_far (p := ⟨gb283, _, none⟩) NB261_283.out _).trans (((cell_far (p := ⟨gb283, _, none⟩) NB261_283.out _).trans (hHeld.2.2.2.2.2.2.2.2.2))))))))))⟩ (fun hHeld => ?_)
          clear hK K
          refine done_ (done_of HT_.out (by kernel_rfl)) ?_
          have H := HC36.out
          clear HC36
          by_cases c36 : t272 = 0
          ·
           rw [if_pos c36] at H
           have c36b0 : (t272 == 0) = true := beq_iff_eq.mpr c36
           have c36b1 : (t272 != 0) = false := bne_eq_false_iff_eq.mpr c36
           clear c36
           replace H := Option.bind_eq_some_iff.mp H
           obtain ⟨t284, A370, H⟩ := H
           replace H : (some t284) = some r := H
           have A37 := qM A370
           clear A370
           obtain rfl := qI H
           have hnb60 := NB273_283.out
           have hnc60 := NB283_273.out
           have hcz61_0 : w53.cell? ⟨gb273, 0, none⟩ = some (.int .i64 t262) := (blk_cell BK273.out 0).trans rfl
           have hcz61_1 : w53.cell? ⟨gb273, 1, none⟩ = some (.string t263) := (blk_cell BK273.out 1).trans rfl
           have hcz61_2 : w53.cell? ⟨gb273, 2, none⟩ = some (.int .i64 t264) := (blk_cell BK273.out 2).trans rfl
           have hcz61_3 : w53.cell? ⟨gb273, 3, none⟩ = some (.slice Ao43 t265.length co43) := (blk_cell BK273.out 3).trans rfl
           have hcz61_4 : w53.cell? ⟨gb273, 4, none⟩ = some (.slice Ao44 t268.length co44) := (blk_cell BK273.out 4).trans rfl
           have hfz61_0 := blk_frozen BK273.out 0
           have hfz61_1 := blk_frozen BK273.out 1
           have hfz61_2 := blk_frozen BK273.out 2
           have hfz61_3 := blk_frozen BK273.out 3
           have hfz61_4 := blk_frozen BK273.out 4
           have hnb62 := NB283_249.out
           have hnc62 := NB249_283.out
           have hnb63 := NB283_261.out
           have hnc63 := NB261_283.out
           have hcz64_0 : w53.cell? ⟨gb283, 0, none⟩ = some (.int .i64 0) := (blk_cell BK283.out 0).trans rfl
           have hcz64_1 : w53.cell? ⟨gb283, 1, none⟩ = some (.string (⟨#[]⟩ : ByteArray)) := (blk_cell BK283.out 1).trans rfl
           have hcz64_2 : w53.cell? ⟨gb283, 2, none⟩ = some (.int .i64 0) := (blk_cell BK283.out 2).trans rfl
           have hcz64_3 : w53.cell? ⟨gb283, 3, none⟩ = some (.slice none 0 0) := (blk_cell BK283.out 3).trans rfl
           have hcz64_4 : w53.cell? ⟨gb283, 4, none⟩ = some (.slice none 0 0) := (blk_cell BK283.out 4).trans rfl
           have hfz64_0 := blk_frozen BK283.out 0
           have hfz64_1 := blk_frozen BK283.out 1
           have hfz64_2 := blk_frozen BK283.out 2
           have hfz64_3 := blk_frozen BK283.out 3
           have hfz64_4 := blk_frozen BK283.out 4
           try go_wp2_with (first | (go_at_call 9; (refine (rookeryref16_Same.calls kj6 t262 t263 t264 _ _ t265 _ _ t268 18 (⟨#[]⟩ : ByteArray) 0 _ _ ([] : List Int) _ _ y280 t284 _ ?side1 ?side2 ?side3 ?side4 ?side5 ?side6 ?side7 ?side8 A37.out).mono ?_); (case side1 => refine (Kd.R_reads' (e := 5) (base := w.heap.size) (ok := fun k_ => (some k_ ≠ (.slice Ao12 t241.length co12 : Value).ownBlock ∧ some k_ ≠ (.slice Ao18 t253.length co18 : Value).ownBlock)) (n := t265.length) (c := co43) ?_).2.2; exact (by (with_reducible repeat (first | apply Kd.R_alloc | apply Kd.R_drewN | apply Kd.R_drew)); exact (Kd.R_mono (Kd.R_far (p := ⟨gb283, 4, none⟩) (Kd.R_far (p := ⟨gb283, 3, none⟩) (Kd.R_far (p := ⟨gb283, 2, none⟩) (Kd.R_far (p := ⟨gb283, 1, none⟩) (Kd.R_far (p := ⟨gb283, 0, none⟩) (Kd.R_types HO267.out BK283.out (by decide)) (fun _ hk => hk.2) (.int .i64 18)) (fun _ hk => hk.2) (.string (⟨#[]⟩ : ByteArray))) (fun _ hk => hk.2) (.int .i64 0)) (fun _ hk => hk.2) (.slice none 0 0)) (fun _ hk => hk.2) (.slice Ao54 y280.length co54)) (fun _ h_ => h_.1)))); (case side2 => exact (Kd.R_reads' HO267.out).2.1); (case side3 => refine (Kd.N_reads' (e := 28) (base := w.heap.size) (ok := fun k_ => (some k_ ≠ (.slice Ao43 t265.length co43 : Value).ownBlock ∧ (some k_ ≠ (.slice Ao54 y280.length co54 : Value).ownBlock ∧ (some k_ ≠ (.slice Ao12 t241.length co12 : Value).ownBlock ∧ (some k_ ≠ (.slice Ao13 t244.length co13 : Value).ownBlock ∧ (some k_ ≠ (.slice Ao18 t253.length co18 : Value).ownBlock ∧ (some k_ ≠ (.slice Ao19 t256.length co19 : Value).ownBlock ∧ (k_ ≠ gb249 ∧ (k_ ≠ gb261 ∧ (k_ ≠ gb273 ∧ k_ ≠ gb283)))))))))) (n := t268.length) (c := co44) ?_).2.2; exact (by (with_reducible repeat (first | apply Kd.N_alloc | apply Kd.N_drewN | apply Kd.N_drew)); exact (Kd.N_mono (Kd.N_far (p := ⟨gb283, 4, none⟩) (Kd.N_far (p := ⟨gb283, 3, none⟩) (Kd.N_far (p := ⟨gb283, 2, none⟩) (Kd.N_far (p := ⟨gb283, 1, none⟩) (Kd.N_far (p := ⟨gb283, 0, none⟩) (Kd.N_mono HO270.out (fun k_ hk => (⟨hk, hk.2.2.2.2.2.2.2.2.2⟩ : _ ∧ k_ ≠ gb283))) (fun _ hk => hk.2) (.int .i64 18)) (fun _ hk => hk.2) (.string (⟨#[]⟩ : ByteArray))) (fun _ hk => hk.2) (.int .i64 0)) (fun _ hk => hk.2) (.slice none 0 0)) (fun _ hk => hk.2) (.slice Ao54 y280.length co54)) (fun _ h_ => h_.1)))); (case side4 => exact (Kd.N_reads' HO270.out).2.1); (case side5 => exact Kd.C_nil _ _); (case side6 => exact Nat.le_refl _); (case side7 => refine (Kd.N_reads' (e := 28) (base := w.heap.size) (ok := fun k_ => (some k_ ≠ (.slice Ao43 t265.length co43 : Value).ownBlock ∧ (some k_ ≠ (.slice Ao44 t268.length co44 : Value).ownBlock ∧ (some k_ ≠ (.slice Ao12 t241.length co12 : Value).ownBlock ∧ (some k_ ≠ (.slice Ao18 t253.length co18 : Value).ownBlock ∧ (k_ ≠ gb249 ∧ (k_ ≠ gb261 ∧ (k_ ≠ gb273 ∧ k_ ≠ gb283)))))))) (n := y280.length) (c := co54) ?_).2.2; exact (by (with_reducible repeat (first | apply Kd.N_alloc | apply Kd.N_drewN | apply Kd.N_drew)); exact (Kd.N_mono (Kd.N_far (p := ⟨gb283, 4, none⟩) (Kd.N_far (p := ⟨gb283, 3, none⟩) (Kd.N_far (p := ⟨gb283, 2, none⟩) (Kd.N_far (p := ⟨gb283, 1, none⟩) (Kd.N_far (p := ⟨gb283, 0, none⟩) (Kd.N_mono HO282.out (fun k_ hk => (⟨hk, hk.2.2.2.2.2.2.2⟩ : _ ∧ k_ ≠ gb283))) (fun _ hk => hk.2) (.int .i64 18)) (fun _ hk => hk.2) (.string (⟨#[]⟩ : ByteArray))) (fun _ hk => hk.2) (.int .i64 0)) (fun _ hk => hk.2) (.slice none 0 0)) (fun _ hk => hk.2) (.slice Ao54 y280.length co54)) (fun _ h_ => h_.1)))); (case side8 => exact (Kd.N_reads' HO282.out).2.1); rintro e w65 ⟨rfl, hb⟩; have n0_ := qM (Kd.R_below (by (with_reducible repeat (first | apply Kd.R_alloc | apply Kd.R_drewN | apply Kd.R_drew)); exact (Kd.R_mono (Kd.R_far (p := ⟨gb283, 4, none⟩) (Kd.R_far (p := ⟨gb283, 3, none⟩) (Kd.R_far (p := ⟨gb283, 2, none⟩) (Kd.R_far (p := ⟨gb283, 1, none⟩) (Kd.R_far (p := ⟨gb283, 0, none⟩) (Kd.R_types HO_250003.out BK283.out (by decide)) (fun _ hk => hk.2) (.int .i64 18)) (fun _ hk => hk.2) (.string (⟨#[]⟩ : ByteArray))) (fun _ hk => hk.2) (.int .i64 0)) (fun _ hk => hk.2) (.slice none 0 0)) (fun _ hk => hk.2) (.slice Ao54 y280.length co54)) (fun _ h_ => h_.1))) hb); have n1_ := qM (Kd.N_below (by (with_reducible repeat (first | apply Kd.N_alloc | apply Kd.N_drewN | apply Kd.N_drew)); exact (Kd.N_mono (Kd.N_far (p := ⟨gb283, 4, none⟩) (Kd.N_far (p := ⟨gb283, 3, none⟩) (Kd.N_far (p := ⟨gb283, 2, none⟩) (Kd.N_far (p := ⟨gb283, 1, none⟩) (Kd.N_far (p := ⟨gb283, 0, none⟩) (Kd.N_mono HO_250004.out (fun k_ hk => (⟨hk, hk.2.2.2.2.2.2.2.2.2⟩ : _ ∧ k_ ≠ gb283))) (fun _ hk => hk.2) (.int .i64 18)) (fun _ hk => hk.2) (.string (⟨#[]⟩ : ByteArray))) (fun _ hk => hk.2) (.int .i64 0)) (fun _ hk => hk.2) (.slice none 0 0)) (fun _ hk => hk.2) (.slice Ao54 y280.length co54)) (fun _ h_ => h_.1))) hb); have n2_ := qM (Kd.R_below (by (with_reducible repeat (first | apply Kd.R_alloc | apply Kd.R_drewN | apply Kd.R_drew)); exact (Kd.R_mono (Kd.R_far (p := ⟨gb283, 4, none⟩) (Kd.R_far (p := ⟨gb283, 3, none⟩) (Kd.R_far (p := ⟨gb283, 2, none⟩) (Kd.R_far (p := ⟨gb283, 1, none⟩) (Kd.R_far (p := ⟨gb283, 0, none⟩) (Kd.R_types HO_262003.out BK283.out (by decide)) (fun _ hk => hk.2) (.int .i64 18)) (fun _ hk => hk.2) (.string (⟨#[]⟩ : ByteArray))) (fun _ hk => hk.2) (.int .i64 0)) (fun _ hk => hk.2) (.slice none 0 0)) (fun _ hk => hk.2) (.slice Ao54 y280.length co54)) (fun _ h_ => h_.1))) hb); have n3_ := qM (Kd.N_below (by (with_reducible repeat (first | apply Kd.N_alloc | apply Kd.N_drewN | apply Kd.N_drew)); exact (Kd.N_mono (Kd.N_far (p := ⟨gb283, 4, none⟩) (Kd.N_far (p := ⟨gb283, 3, none⟩) (Kd.N_far (p := ⟨gb283, 2, none⟩) (Kd.N_far (p := ⟨gb283, 1, none⟩) (Kd.N_far (p := ⟨gb283, 0, none⟩) (Kd.N_mono HO_262004.out (fun k_ hk => (⟨hk, hk.2.2.2.2.2.2.2.2.2⟩ : _ ∧ k_ ≠ gb283))) (fun _ hk => hk.2) (.int .i64 18)) (fun _ hk => hk.2) (.string (⟨#[]⟩ : ByteArray))) (fun _ hk => hk.2) (.int .i64 0)) (fun _ hk => hk.2) (.slice none 0 0)) (fun _ hk => hk.2) (.slice Ao54 y280.length co54)) (fun _ h_ => h_.1))) hb); have n4_ := qM (Kd.R_below (by (with_reducible repeat (first | apply Kd.R_alloc | apply Kd.R_drewN | apply Kd.R_drew)); exact (Kd.R_mono (Kd.R_far (p := ⟨gb283, 4, none⟩) (Kd.R_far (p := ⟨gb283, 3, none⟩) (Kd.R_far (p := ⟨gb283, 2, none⟩) (Kd.R_far (p := ⟨gb283, 1, none⟩) (Kd.R_far (p := ⟨gb283, 0, none⟩) (Kd.R_types HO267.out BK283.out (by decide)) (fun _ hk => hk.2) (.int .i64 18)) (fun _ hk => hk.2) (.string (⟨#[]⟩ : ByteArray))) (fun _ hk => hk.2) (.int .i64 0)) (fun _ hk => hk.2) (.slice none 0 0)) (fun _ hk => hk.2) (.slice Ao54 y280.length co54)) (fun _ h_ => h_.1))) hb); have n5_ := qM (Kd.N_below (by (with_reducible repeat (first | apply Kd.N_alloc | apply Kd.N_drewN | apply Kd.N_drew)); exact (Kd.N_mono (Kd.N_far (p := ⟨gb283, 4, none⟩) (Kd.N_far (p := ⟨gb283, 3, none⟩) (Kd.N_far (p := ⟨gb283, 2, none⟩) (Kd.N_far (p := ⟨gb283, 1, none⟩) (Kd.N_far (p := ⟨gb283, 0, none⟩) (Kd.N_mono HO270.out (fun k_ hk => (⟨hk, hk.2.2.2.2.2.2.2.2.2⟩ : _ ∧ k_ ≠ gb283))) (fun _ hk => hk.2) (.int .i64 18)) (fun _ hk => hk.2) (.string (⟨#[]⟩ : ByteArray))) (fun _ hk => hk.2) (.int .i64 0)) (fun _ hk => hk.2) (.slice none 0 0)) (fun _ hk => hk.2) (.slice Ao54 y280.length co54)) (fun _ h_ => h_.1))) hb); have n6_ := qM (Kd.N_below (by (with_reducible repeat (first | apply Kd.N_alloc | apply Kd.N_drewN | apply Kd.N_drew)); exact (Kd.N_mono (Kd.N_far (p := ⟨gb283, 4, none⟩) (Kd.N_far (p := ⟨gb283, 3, none⟩) (Kd.N_far (p := ⟨gb283, 2, none⟩) (Kd.N_far (p := ⟨gb283, 1, none⟩) (Kd.N_far (p := ⟨gb283, 0, none⟩) (Kd.N_mono HO282.out (fun k_ hk => (⟨hk, hk.2.2.2.2.2.2.2⟩ : _ ∧ k_ ≠ gb283))) (fun _ hk => hk.2) (.int .i64 18)) (fun _ hk => hk.2) (.string (⟨#[]⟩ : ByteArray))) (fun _ hk => hk.2) (.int .i64 0)) (fun _ hk => hk.2) (.slice none 0 0)) (fun _ hk => hk.2) (.slice Ao54 y280.length co54)) (fun _ h_ => h_.1))) hb); have n7_ := qM (blk_below (g := gb249) (o := .cells #[.int .i64 t238, .string t239, .int .i64 t240, .slice Ao12 t241.length co12, .slice Ao13 t244.length co13] 28 (0, 0)) (by (with_reducible repeat (first | refine blk_drewN ?_ _ | refine blk_drew ?_ | refine blk_alloc ?_ _)); refine blk_far ?_ NB249_283.out _; (with_reducible repeat (first | refine blk_drewN ?_ _ | refine blk_drew ?_ | refine blk_alloc ?_ _)); refine blk_far ?_ NB249_283.out _; (with_reducible repeat (first | refine blk_drewN ?_ _ | refine blk_drew ?_ | refine blk_alloc ?_ _)); refine blk_far ?_ NB249_283.out _; (with_reducible repeat (first | refine blk_drewN ?_ _ | refine blk_drew ?_ | refine blk_alloc ?_ _)); refine blk_far ?_ NB249_283.out _; (with_reducible repeat (first | refine blk_drewN ?_ _ | refine blk_drew ?_ | refine blk_alloc ?_ _)); refine blk_far ?_ NB249_283.out _; (with_reducible repeat (first | refine blk_drewN ?_ _ | refine blk_drew ?_ | refine blk_alloc ?_ _)); exact BK249.out) hb); have n8_ := qM (blk_below (g := gb261) (o := .cells #[.int .i64 t250, .string t251, .int .i64 t252, .slice Ao18 t253.length co18, .slice Ao19 t256.length co19] 28 (0, 0)) (by (with_reducible repeat (first | refine blk_drewN ?_ _ | refine blk_drew ?_ | refine blk_alloc ?_ _)); refine blk_far ?_ NB261_283.out _; (with_reducible repeat (first | refine blk_drewN ?_ _ | refine blk_drew ?_ | refine blk_alloc ?_ _)); refine blk_far ?_ NB261_283.out _; (with_reducible repeat (first | refine blk_drewN ?_ _ | refine blk_drew ?_ | refine blk_alloc ?_ _)); refine blk_far ?_ NB261_283.out _; (with_reducible repeat (first | refine blk_drewN ?_ _ | refine blk_drew ?_ | refine blk_alloc ?_ _)); refine blk_far ?_ NB261_283.out _; (with_reducible repeat (first | refine blk_drewN ?_ _ | refine blk_drew ?_ | refine blk_alloc ?_ _)); refine blk_far ?_ NB261_283.out _; (with_reducible repeat (first | refine blk_drewN ?_ _ | refine blk_drew ?_ | refine blk_alloc ?_ _)); exact BK261.out) hb); have n9_ := qM (blk_below (g := gb273) (o := .cells #[.int .i64 t262, .string t263, .int .i64 t264, .slice Ao43 t265.length co43, .slice Ao44 t268.length co44] 28 (0, 0)) (by (with_reducible repeat (first | refine blk_drewN ?_ _ | refine blk_drew ?_ | refine blk_alloc ?_ _)); refine blk_far ?_ NB273_283.out _; (with_reducible repeat (first | refine blk_drewN ?_ _ | refine blk_drew ?_ | refine blk_alloc ?_ _)); refine blk_far ?_ NB273_283.out _; (with_reducible repeat (first | refine blk_drewN ?_ _ | refine blk_drew ?_ | refine blk_alloc ?_ _)); refine blk_far ?_ NB273_283.out _; (with_reducible repeat (first | refine blk_drewN ?_ _ | refine blk_drew ?_ | refine blk_alloc ?_ _)); refine blk_far ?_ NB273_283.out _; (with_reducible repeat (first | refine blk_drewN ?_ _ | refine blk_drew ?_ | refine blk_alloc ?_ _)); refine blk_far ?_ NB273_283.out _; (with_reducible repeat (first | refine blk_drewN ?_ _ | refine blk_drew ?_ | refine blk_alloc ?_ _)); exact BK273.out) hb); have n10_ := qM (blk_below (g := gb283) (o := .cells #[.int .i64 18, .string (⟨#[]⟩ : ByteArray), .int .i64 0, .slice none 0 0, .slice Ao54 y280.length co54] 28 (0, 0)) (by (with_reducible repeat (first | refine blk_drewN ?_ _ | refine blk_drew ?_ | refine blk_alloc ?_ _)); refine blk_put (cs := #[.int .i64 18, .string (⟨#[]⟩ : ByteArray), .int .i64 0, .slice none 0 0, .slice none 0 0]) ?_ 4 _ rfl; (with_reducible repeat (first | refine blk_drewN ?_ _ | refine blk_drew ?_ | refine blk_alloc ?_ _)); refine blk_put (cs := #[.int .i64 18, .string (⟨#[]⟩ : ByteArray), .int .i64 0, .slice none 0 0, .slice none 0 0]) ?_ 3 _ rfl; (with_reducible repeat (first | refine blk_drewN ?_ _ | refine blk_drew ?_ | refine blk_alloc ?_ _)); refine blk_put (cs := #[.int .i64 18, .string (⟨#[]⟩ : ByteArray), .int .i64 0, .slice none 0 0, .slice none 0 0]) ?_ 2 _ rfl; (with_reducible repeat (first | refine blk_drewN ?_ _ | refine blk_drew ?_ | refine blk_alloc ?_ _)); refine blk_put (cs := #[.int .i64 18, .string (⟨#[]⟩ : ByteArray), .int .i64 0, .slice none 0 0, .slice none 0 0]) ?_ 1 _ rfl; (with_reducible repeat (first | refine blk_drewN ?_ _ | refine blk_drew ?_ | refine blk_alloc ?_ _)); refine blk_put (cs := #[.int .i64 0, .string (⟨#[]⟩ : ByteArray), .int .i64 0, .slice none 0 0, .slice none 0 0]) ?_ 0 _ rfl; (with_reducible repeat (first | refine blk_drewN ?_ _ | refine blk_drew ?_ | refine blk_alloc ?_ _)); exact BK283.out) hb); have n11_ := qM (below_step (by repeat (first | (with_reducible first | exact HB.out | apply below_alloc | apply pw_below_drewN | apply below_drew1 | refine below_set ?_ GE249.out | refine below_set ?_ GE261.out | refine below_set ?_ GE273.out | refine below_set ?_ GE283.out) | exact HB.out)) hb); clear HO_250003; clear HO_250004; clear HO_262003; clear HO_262004; clear HO267; clear HO270; clear HO282; clear BK249; clear BK261; clear BK273; clear BK283; clear HB; have HO_250003 := n0_; have HO_250004 := n1_; have HO_262003 := n2_; have HO_262004 := n3_; have HO267 := n4_; have HO270 := n5_; have HO282 := n6_; have BK249 := n7_; have BK261 := n8_; have BK273 := n9_; have BK283 := n10_; have HB := n11_; clear n0_ n1_ n2_ n3_ n4_ n5_ n6_ n7_ n8_ n9_ n10_ n11_; (try clear hb); (try clear hb2); (try clear hk); (try clear hi)))
           go_ret
           exact ⟨by first | rfl | (simp [errW_none, errW_some] <;> rfl) | (simp [*, errW_none, errW_some] <;> rfl), by repeat (first | (with_reducible first | exact HB.out | apply below_alloc | apply pw_below_drewN | apply below_drew1 | refine below_set ?_ GE249.out | refine below_set ?_ GE261.out | refine below_set ?_ GE273.out | refine below_set ?_ GE283.out) | exact HB.out)⟩
          ·
           rw [if_neg c36] at H
           have c36b0 : (t272 == 0) = false := beq_eq_false_iff_ne.mpr c36
           have c36b1 : (t272 != 0) = true := bne_iff_ne.mpr c36
           obtain rfl := qI H
           try go_wp2
           go_ret
           exact ⟨by first | rfl | (simp [errW_none, errW_some] <;> rfl) | (simp [*, errW_none, errW_some] <;> rfl), by repeat (first | (with_reducible first | exact HB.out | apply below_alloc | apply pw_below_drewN | apply below_drew1 | refine below_set ?_ GE249.out | refine below_set ?_ GE261.out | refine below_set ?_ GE273.out | refine below_set ?_ GE283.out) | exact HB.out)⟩
         ·
          rw [if_neg c35] at H
          exact absurd H (by simp)
        ·
         rw [if_neg c34] at H
         exact absurd H (by simp)
      ·
       rw [if_neg c24] at H
       exact absurd H (by simp)
     ·
      rw [if_neg c23] at H
      exact absurd H (by simp)
 ·
  replace c4 := Bool.eq_false_iff.mpr c4
  subst c4
  have H1 : (some false) = some r := by rw [if_neg (show ¬ (false = true) by decide)] at H; exact H
  clear H
  have H := H1
  clear H1
  obtain rfl := qI H
  go_enter Tryd.func4, Tryd.ntmps4
  go_wp2_with (first | ((with_reducible refine gate_callee (f := 7) rfl ?_); refine goesL_ (some 15) rfl rfl Tryd.func7 (by kernel_rfl) rfl #[] rfl (by (try simp only [List.map_toArray, List.map_cons, List.map_nil]); first | done | rfl | (simp only [List.length_drop, List.length_take]; rfl)) ?_; (with_reducible refine (rookerylaw16_alive.calls  false _ ?side1 A3.out).mono ?_); (case side1 => first | exact hG | exact hG.drewN _ | exact hG.drew | exact hG.below (qB HB.out) | (refine hG.below ?_; (repeat (first | (with_reducible exact Below.refl _ _) | (with_reducible refine pw_below_drewN ?_ _) | (with_reducible refine below_drew ?_) | (with_reducible refine below_alloc ?_ _))))); rintro e w88 ⟨rfl, hb⟩; refine ⟨_, rfl, ?_⟩; have n0_ := qM (below_step (qB HB.out) hb); clear HB; have HB := n0_; clear n0_; (try clear hb); (try clear hb2); (try clear hk); (try clear hi)))
  go_ret
  exact ⟨by first | rfl | (simp [errW_none, errW_some] <;> rfl) | (simp [*, errW_none, errW_some] <;> rfl), by repeat (first | (with_reducible first | exact HB.out | apply below_alloc | apply pw_below_drewN | apply below_drew1) | exact HB.out)⟩

/-- THE ONE PURE STATEMENT of rookerylaw16_GramFuns: yours. -/
def rookerylaw16_GramFuns.Pure : Prop := ∀ (a0 : ByteArray) (a1 : ByteArray), a0.size ≤ 140737488351232 → a1.size ≤ 140737488351232 → ∃ k, rookerylaw16_GramFuns.f k a0 a1 = some true
theorem rookerylaw16_GramFuns.walk (P : rookerylaw16_GramFuns.Pure) (a0 : ByteArray) (a1 : ByteArray) (w : World) (w0 : a0.size ≤ 140737488351232) (w1 : a1.size ≤ 140737488351232) (hG : Glob w) :
  Calls Tryd.prog 4 #[.string a0, .string a1] w fun e w' => e = .returned (.bool true) ∧ Below w.heap.size w w' := by
 obtain ⟨k, h⟩ := P a0 a1 w0 w1
 refine (rookerylaw16_GramFuns.calls k a0 a1 true w hG h).mono ?_
 rintro e w' ⟨rfl, hd⟩
 exact ⟨rfl, hd⟩

end Go.Proofs.YtejidddjkngoiaaDoor.PGram
