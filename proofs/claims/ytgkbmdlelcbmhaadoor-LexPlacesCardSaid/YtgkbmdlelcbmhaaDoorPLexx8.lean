-- Written by a turned copy of the kit's printer (wip/patch_print.py), in this project; not trusted: Lean checks it.
import Derived.Test.YtgkbmdlelcbmhaaDoorPLexx0
import Derived.Test.YtgkbmdlelcbmhaaDoorPLexx2
import Derived.Test.YtgkbmdlelcbmhaaDoorPLexx6
import Derived.Test.YtgkbmdlelcbmhaaDoorPLexx7
namespace Go.Proofs.YtgkbmdlelcbmhaaDoor.PLex
open Go.RowKit Go.Proofs.YtgkbmdlelcbmhaaDoorW.PrintWords Go.Proofs.YtgkbmdlelcbmhaaDoorW.PrintLast Go.Proofs.YtgkbmdlelcbmhaaDoorW.PrintMore
attribute [local go_sem] max2_int min2_int max_two min_two max_three min_three max_four min_four   -- for this text's walks alone
set_option linter.unusedVariables false
set_option linter.unusedSimpArgs false

/-! ### rookerylaw15_LexScans: function 3 -/
def rookerylaw15_LexScans.f (k : Nat) (a0 : ByteArray) : Option (Bool) := (rookerylaw15_alive.f k).bind fun t240 => (if t240 = true then ((lex_Scan.f k a0).bind fun bt241 => ((rookeryref15_Scan.f k a0).bind fun bt246 => ((rookeryref15_All.f k bt241.1 bt246.1).bind fun t251 => (if t251 = true then (if bt241.2.1 = bt246.2.1 then (some (bt241.2.2 == bt246.2.2)) else (some false)) else (some false))))) else (some false))
theorem rookerylaw15_LexScans.mono : ∀ a0 k, LeO (rookerylaw15_LexScans.f k a0) (rookerylaw15_LexScans.f (k + 1) a0) := by
  intro a0 k
  unfold rookerylaw15_LexScans.f
  repeat' first
      | (with_reducible exact lex_Scan.mono _ _)
      | (with_reducible exact rookerylaw15_alive.mono _)
      | (with_reducible exact rookeryref15_All.mono _ _ _)
      | (with_reducible exact rookeryref15_Scan.mono _ _)
      | (with_reducible exact LeO.refl _)
      | (with_reducible exact LeO.none _)
      | (with_reducible refine LeO.ite ?_ ?_)
      | (with_reducible refine LeO.bind ?_ (fun _ => ?_))
      | exact lex_Scan.mono _ _
      | exact rookerylaw15_alive.mono _
      | exact rookeryref15_All.mono _ _ _
      | exact rookeryref15_Scan.mono _ _
      | exact LeO.none _
      | refine LeO.ite ?_ ?_
      | refine LeO.bind ?_ (fun _ => ?_)
set_option maxHeartbeats 8000000 in
set_option maxRecDepth 100000 in
theorem rookerylaw15_LexScans.calls (k : Nat) (a0 : ByteArray) (r : Bool) (w : World) (hG : Glob w) (h : rookerylaw15_LexScans.f k a0 = some r) :
    Calls Tryd.prog 3 #[.string a0] w fun e w' => e = .returned (.bool r) ∧ Below w.heap.size w w' := by
  have HB := Aside0.mk (Below.refl w.heap.size w)
  have H : ((rookerylaw15_alive.f k).bind fun t240 => (if t240 = true then ((lex_Scan.f k a0).bind fun bt241 => ((rookeryref15_Scan.f k a0).bind fun bt246 => ((rookeryref15_All.f k bt241.1 bt246.1).bind fun t251 => (if t251 = true then (if bt241.2.1 = bt246.2.1 then (some (bt241.2.2 == bt246.2.2)) else (some false)) else (some false))))) else (some false))) = some r := h
  clear h
  replace H := Option.bind_eq_some_iff.mp H
  obtain ⟨t240, A20, H⟩ := H
  replace H : (if t240 = true then ((lex_Scan.f k a0).bind fun bt241 => ((rookeryref15_Scan.f k a0).bind fun bt246 => ((rookeryref15_All.f k bt241.1 bt246.1).bind fun t251 => (if t251 = true then (if bt241.2.1 = bt246.2.1 then (some (bt241.2.2 == bt246.2.2)) else (some false)) else (some false))))) else (some false)) = some r := H
  have A2 := Aside0.mk A20
  clear A20
  by_cases c3 : t240 = true
  · subst c3
    have H1 : ((lex_Scan.f k a0).bind fun bt241 => ((rookeryref15_Scan.f k a0).bind fun bt246 => ((rookeryref15_All.f k bt241.1 bt246.1).bind fun t251 => (if t251 = true then (if bt241.2.1 = bt246.2.1 then (some (bt241.2.2 == bt246.2.2)) else (some false)) else (some false))))) = some r := by rw [if_pos rfl] at H; exact H
    clear H
    have H := H1
    clear H1
    replace H := Option.bind_eq_some_iff.mp H
    obtain ⟨⟨t241, t242, t243⟩, A40, H⟩ := H
    replace H : ((rookeryref15_Scan.f k a0).bind fun bt246 => ((rookeryref15_All.f k t241 bt246.1).bind fun t251 => (if t251 = true then (if t242 = bt246.2.1 then (some (t243 == bt246.2.2)) else (some false)) else (some false)))) = some r := H
    have A4 := Aside0.mk A40
    clear A40
    replace H := Option.bind_eq_some_iff.mp H
    obtain ⟨⟨t246, t247, t248⟩, A50, H⟩ := H
    replace H : ((rookeryref15_All.f k t241 t246).bind fun t251 => (if t251 = true then (if t242 = t247 then (some (t243 == t248)) else (some false)) else (some false))) = some r := H
    have A5 := Aside0.mk A50
    clear A50
    replace H := Option.bind_eq_some_iff.mp H
    obtain ⟨t251, A60, H⟩ := H
    replace H : (if t251 = true then (if t242 = t247 then (some (t243 == t248)) else (some false)) else (some false)) = some r := H
    have A6 := Aside0.mk A60
    clear A60
    by_cases c7 : t251 = true
    · subst c7
      have H1 : (if t242 = t247 then (some (t243 == t248)) else (some false)) = some r := by rw [if_pos rfl] at H; exact H
      clear H
      have H := H1
      clear H1
      by_cases c8 : t242 = t247
      · rw [if_pos c8] at H
        have c8b0 : (t242 == t247) = true := beq_iff_eq.mpr c8
        have c8b1 : (t242 != t247) = false := bne_eq_false_iff_eq.mpr c8
        clear c8
        obtain rfl := Option.some.inj H
        go_enter Tryd.func3, Tryd.ntmps3
        go_wp2_with (first | ((with_reducible refine gate_callee (f := 13) rfl ?_); refine goesL_ (some 9) rfl rfl Tryd.func13 (by kernel_rfl) rfl #[] rfl (by (try simp only [List.map_toArray, List.map_cons, List.map_nil]); first | done | rfl | (simp only [List.length_drop, List.length_take]; rfl)) ?_; (with_reducible refine (rookerylaw15_alive.calls k  true _ ?side1 A2.out).mono ?_); (case side1 => first | exact hG | exact hG.drewN _ | exact hG.drew | exact hG.below (by repeat (first | (with_reducible first | exact HB.out | apply below_alloc | apply pw_below_drewN | apply below_drew1) | exact HB.out)) | (refine hG.below ?_; (repeat (first | (with_reducible exact Below.refl _ _) | (with_reducible refine pw_below_drewN ?_ _) | (with_reducible refine below_drew ?_) | (with_reducible refine below_alloc ?_ _))))); rintro e w9 ⟨rfl, hb⟩; refine ⟨_, rfl, ?_⟩; have n0_ := Aside0.mk (below_step (by repeat (first | (with_reducible first | exact HB.out | apply below_alloc | apply pw_below_drewN | apply below_drew1) | exact HB.out)) hb); clear HB; have HB := n0_; clear n0_; (try clear hb); (try clear hb2); (try clear hk); (try clear hi)) | ((with_reducible refine gate_callee (f := 14) rfl ?_); refine goesL_ (some 13) rfl rfl Tryd.func14 (by kernel_rfl) rfl #[.string a0] rfl (by (try simp only [List.map_toArray, List.map_cons, List.map_nil]); first | done | rfl | (simp only [List.length_drop, List.length_take]; rfl)) ?_; (with_reducible refine (lex_Scan.calls k a0 t241 t242 t243 _ ?side1 A4.out).mono ?_); (case side1 => first | exact hG | exact hG.drewN _ | exact hG.drew | exact hG.below (by repeat (first | (with_reducible first | exact HB.out | apply below_alloc | apply pw_below_drewN | apply below_drew1) | exact HB.out)) | (refine hG.below ?_; (repeat (first | (with_reducible exact Below.refl _ _) | (with_reducible refine pw_below_drewN ?_ _) | (with_reducible refine below_drew ?_) | (with_reducible refine below_alloc ?_ _))))); rintro e w10 ⟨v244, rfl, ho0, hb⟩; refine ⟨_, rfl, ?_⟩; have n0_ := Aside0.mk (Kd.S_lower ho0 (below_size (by repeat (first | (with_reducible first | exact HB.out | apply below_alloc | apply pw_below_drewN | apply below_drew1) | exact HB.out)))); have n1_ := Aside0.mk (below_step (by repeat (first | (with_reducible first | exact HB.out | apply below_alloc | apply pw_below_drewN | apply below_drew1) | exact HB.out)) hb); clear HB; have HO245 := n0_; have HB := n1_; clear n0_ n1_; (try clear hb); (try clear hb2); (try clear hk); (try clear hi); (try clear ho0)) | ((with_reducible refine gate_callee (f := 15) rfl ?_); refine goesL_ (some 19) rfl rfl Tryd.func15 (by kernel_rfl) rfl #[.string a0] rfl (by (try simp only [List.map_toArray, List.map_cons, List.map_nil]); first | done | rfl | (simp only [List.length_drop, List.length_take]; rfl)) ?_; (with_reducible refine (rookeryref15_Scan.calls k a0 t246 t247 t248 _ A5.out).mono ?_); rintro e w11 ⟨v249, rfl, ho0, hb⟩; refine ⟨_, rfl, ?_⟩; have n0_ := Aside0.mk (Kd.S_elder' (by (with_reducible repeat (first | apply Kd.S_alloc | apply Kd.S_drewN | apply Kd.S_drew)); exact HO245.out) (Kd.S_base ho0) hb); have n1_ := Aside0.mk (Kd.S_lower (Kd.S_new' ho0 (Kd.S_lt (by (with_reducible repeat (first | apply Kd.S_alloc | apply Kd.S_drewN | apply Kd.S_drew)); exact HO245.out))) (below_size (by repeat (first | (with_reducible first | exact HB.out | apply below_alloc | apply pw_below_drewN | apply below_drew1) | exact HB.out)))); have n2_ := Aside0.mk (below_step (by repeat (first | (with_reducible first | exact HB.out | apply below_alloc | apply pw_below_drewN | apply below_drew1) | exact HB.out)) hb); clear HO245; clear HB; have HO245 := n0_; have HO250 := n1_; have HB := n2_; clear n0_ n1_ n2_; (try clear hb); (try clear hb2); (try clear hk); (try clear hi); (try clear ho0); obtain ⟨Ao12, co12, eo12⟩ := Kd.S_slice HO245.out; subst eo12; obtain ⟨Ao13, co13, eo13⟩ := Kd.S_slice HO250.out; subst eo13) | ((with_reducible refine gate_callee (f := 16) rfl ?_); refine goesL_ (some 25) rfl rfl Tryd.func16 (by kernel_rfl) rfl #[.slice Ao12 t241.length co12, .slice Ao13 t246.length co13] rfl (by (try simp only [List.map_toArray, List.map_cons, List.map_nil]); first | done | rfl | (simp only [List.length_drop, List.length_take]; rfl)) ?_; (with_reducible refine (rookeryref15_All.calls k _ _ t241 _ _ t246 true _ ?side1 ?side2 ?side3 ?side4 A6.out).mono ?_); (case side1 => repeat (first | exact (Kd.S_reads' HO245.out).2.2 | (with_reducible refine Kd.C_alloc ?_ _) | (with_reducible refine Kd.C_drewN ?_ _) | (with_reducible refine Kd.C_drew ?_))); (case side2 => exact (Kd.S_reads' HO245.out).2.1); (case side3 => repeat (first | exact (Kd.S_reads' HO250.out).2.2 | (with_reducible refine Kd.C_alloc ?_ _) | (with_reducible refine Kd.C_drewN ?_ _) | (with_reducible refine Kd.C_drew ?_))); (case side4 => exact (Kd.S_reads' HO250.out).2.1); rintro e w14 ⟨rfl, hb⟩; refine ⟨_, rfl, ?_⟩; have n0_ := Aside0.mk (Kd.S_below (by (with_reducible repeat (first | apply Kd.S_alloc | apply Kd.S_drewN | apply Kd.S_drew)); exact HO245.out) hb); have n1_ := Aside0.mk (Kd.S_below (by (with_reducible repeat (first | apply Kd.S_alloc | apply Kd.S_drewN | apply Kd.S_drew)); exact HO250.out) hb); have n2_ := Aside0.mk (below_step (by repeat (first | (with_reducible first | exact HB.out | apply below_alloc | apply pw_below_drewN | apply below_drew1) | exact HB.out)) hb); clear HO245; clear HO250; clear HB; have HO245 := n0_; have HO250 := n1_; have HB := n2_; clear n0_ n1_ n2_; (try clear hb); (try clear hb2); (try clear hk); (try clear hi)))
        go_ret
        exact ⟨by first | rfl | (simp [errW_none, errW_some] <;> rfl) | (simp [*, errW_none, errW_some] <;> rfl), by repeat (first | (with_reducible first | exact HB.out | apply below_alloc | apply pw_below_drewN | apply below_drew1) | exact HB.out)⟩
      · rw [if_neg c8] at H
        have c8b0 : (t242 == t247) = false := beq_eq_false_iff_ne.mpr c8
        have c8b1 : (t242 != t247) = true := bne_iff_ne.mpr c8
        obtain rfl := Option.some.inj H
        go_enter Tryd.func3, Tryd.ntmps3
        go_wp2_with (first | ((with_reducible refine gate_callee (f := 13) rfl ?_); refine goesL_ (some 9) rfl rfl Tryd.func13 (by kernel_rfl) rfl #[] rfl (by (try simp only [List.map_toArray, List.map_cons, List.map_nil]); first | done | rfl | (simp only [List.length_drop, List.length_take]; rfl)) ?_; (with_reducible refine (rookerylaw15_alive.calls k  true _ ?side1 A2.out).mono ?_); (case side1 => first | exact hG | exact hG.drewN _ | exact hG.drew | exact hG.below (by repeat (first | (with_reducible first | exact HB.out | apply below_alloc | apply pw_below_drewN | apply below_drew1) | exact HB.out)) | (refine hG.below ?_; (repeat (first | (with_reducible exact Below.refl _ _) | (with_reducible refine pw_below_drewN ?_ _) | (with_reducible refine below_drew ?_) | (with_reducible refine below_alloc ?_ _))))); rintro e w15 ⟨rfl, hb⟩; refine ⟨_, rfl, ?_⟩; have n0_ := Aside0.mk (below_step (by repeat (first | (with_reducible first | exact HB.out | apply below_alloc | apply pw_below_drewN | apply below_drew1) | exact HB.out)) hb); clear HB; have HB := n0_; clear n0_; (try clear hb); (try clear hb2); (try clear hk); (try clear hi)) | ((with_reducible refine gate_callee (f := 14) rfl ?_); refine goesL_ (some 13) rfl rfl Tryd.func14 (by kernel_rfl) rfl #[.string a0] rfl (by (try simp only [List.map_toArray, List.map_cons, List.map_nil]); first | done | rfl | (simp only [List.length_drop, List.length_take]; rfl)) ?_; (with_reducible refine (lex_Scan.calls k a0 t241 t242 t243 _ ?side1 A4.out).mono ?_); (case side1 => first | exact hG | exact hG.drewN _ | exact hG.drew | exact hG.below (by repeat (first | (with_reducible first | exact HB.out | apply below_alloc | apply pw_below_drewN | apply below_drew1) | exact HB.out)) | (refine hG.below ?_; (repeat (first | (with_reducible exact Below.refl _ _) | (with_reducible refine pw_below_drewN ?_ _) | (with_reducible refine below_drew ?_) | (with_reducible refine below_alloc ?_ _))))); rintro e w16 ⟨v244, rfl, ho0, hb⟩; refine ⟨_, rfl, ?_⟩; have n0_ := Aside0.mk (Kd.S_lower ho0 (below_size (by repeat (first | (with_reducible first | exact HB.out | apply below_alloc | apply pw_below_drewN | apply below_drew1) | exact HB.out)))); have n1_ := Aside0.mk (below_step (by repeat (first | (with_reducible first | exact HB.out | apply below_alloc | apply pw_below_drewN | apply below_drew1) | exact HB.out)) hb); clear HB; have HO245 := n0_; have HB := n1_; clear n0_ n1_; (try clear hb); (try clear hb2); (try clear hk); (try clear hi); (try clear ho0)) | ((with_reducible refine gate_callee (f := 15) rfl ?_); refine goesL_ (some 19) rfl rfl Tryd.func15 (by kernel_rfl) rfl #[.string a0] rfl (by (try simp only [List.map_toArray, List.map_cons, List.map_nil]); first | done | rfl | (simp only [List.length_drop, List.length_take]; rfl)) ?_; (with_reducible refine (rookeryref15_Scan.calls k a0 t246 t247 t248 _ A5.out).mono ?_); rintro e w17 ⟨v249, rfl, ho0, hb⟩; refine ⟨_, rfl, ?_⟩; have n0_ := Aside0.mk (Kd.S_elder' (by (with_reducible repeat (first | apply Kd.S_alloc | apply Kd.S_drewN | apply Kd.S_drew)); exact HO245.out) (Kd.S_base ho0) hb); have n1_ := Aside0.mk (Kd.S_lower (Kd.S_new' ho0 (Kd.S_lt (by (with_reducible repeat (first | apply Kd.S_alloc | apply Kd.S_drewN | apply Kd.S_drew)); exact HO245.out))) (below_size (by repeat (first | (with_reducible first | exact HB.out | apply below_alloc | apply pw_below_drewN | apply below_drew1) | exact HB.out)))); have n2_ := Aside0.mk (below_step (by repeat (first | (with_reducible first | exact HB.out | apply below_alloc | apply pw_below_drewN | apply below_drew1) | exact HB.out)) hb); clear HO245; clear HB; have HO245 := n0_; have HO250 := n1_; have HB := n2_; clear n0_ n1_ n2_; (try clear hb); (try clear hb2); (try clear hk); (try clear hi); (try clear ho0); obtain ⟨Ao18, co18, eo18⟩ := Kd.S_slice HO245.out; subst eo18; obtain ⟨Ao19, co19, eo19⟩ := Kd.S_slice HO250.out; subst eo19) | ((with_reducible refine gate_callee (f := 16) rfl ?_); refine goesL_ (some 25) rfl rfl Tryd.func16 (by kernel_rfl) rfl #[.slice Ao18 t241.length co18, .slice Ao19 t246.length co19] rfl (by (try simp only [List.map_toArray, List.map_cons, List.map_nil]); first | done | rfl | (simp only [List.length_drop, List.length_take]; rfl)) ?_; (with_reducible refine (rookeryref15_All.calls k _ _ t241 _ _ t246 true _ ?side1 ?side2 ?side3 ?side4 A6.out).mono ?_); (case side1 => repeat (first | exact (Kd.S_reads' HO245.out).2.2 | (with_reducible refine Kd.C_alloc ?_ _) | (with_reducible refine Kd.C_drewN ?_ _) | (with_reducible refine Kd.C_drew ?_))); (case side2 => exact (Kd.S_reads' HO245.out).2.1); (case side3 => repeat (first | exact (Kd.S_reads' HO250.out).2.2 | (with_reducible refine Kd.C_alloc ?_ _) | (with_reducible refine Kd.C_drewN ?_ _) | (with_reducible refine Kd.C_drew ?_))); (case side4 => exact (Kd.S_reads' HO250.out).2.1); rintro e w20 ⟨rfl, hb⟩; refine ⟨_, rfl, ?_⟩; have n0_ := Aside0.mk (Kd.S_below (by (with_reducible repeat (first | apply Kd.S_alloc | apply Kd.S_drewN | apply Kd.S_drew)); exact HO245.out) hb); have n1_ := Aside0.mk (Kd.S_below (by (with_reducible repeat (first | apply Kd.S_alloc | apply Kd.S_drewN | apply Kd.S_drew)); exact HO250.out) hb); have n2_ := Aside0.mk (below_step (by repeat (first | (with_reducible first | exact HB.out | apply below_alloc | apply pw_below_drewN | apply below_drew1) | exact HB.out)) hb); clear HO245; clear HO250; clear HB; have HO245 := n0_; have HO250 := n1_; have HB := n2_; clear n0_ n1_ n2_; (try clear hb); (try clear hb2); (try clear hk); (try clear hi)))
        go_ret
        exact ⟨by first | rfl | (simp [errW_none, errW_some] <;> rfl) | (simp [*, errW_none, errW_some] <;> rfl), by repeat (first | (with_reducible first | exact HB.out | apply below_alloc | apply pw_below_drewN | apply below_drew1) | exact HB.out)⟩
    · replace c7 := Bool.eq_false_iff.mpr c7
      subst c7
      have H1 : (some false) = some r := by rw [if_neg (show ¬ (false = true) by decide)] at H; exact H
      clear H
      have H := H1
      clear H1
      obtain rfl := Option.some.inj H
      go_enter Tryd.func3, Tryd.ntmps3
      go_wp2_with (first | ((with_reducible refine gate_callee (f := 13) rfl ?_); refine goesL_ (some 9) rfl rfl Tryd.func13 (by kernel_rfl) rfl #[] rfl (by (try simp only [List.map_toArray, List.map_cons, List.map_nil]); first | done | rfl | (simp only [List.length_drop, List.length_take]; rfl)) ?_; (with_reducible refine (rookerylaw15_alive.calls k  true _ ?side1 A2.out).mono ?_); (case side1 => first | exact hG | exact hG.drewN _ | exact hG.drew | exact hG.below (by repeat (first | (with_reducible first | exact HB.out | apply below_alloc | apply pw_below_drewN | apply below_drew1) | exact HB.out)) | (refine hG.below ?_; (repeat (first | (with_reducible exact Below.refl _ _) | (with_reducible refine pw_below_drewN ?_ _) | (with_reducible refine below_drew ?_) | (with_reducible refine below_alloc ?_ _))))); rintro e w21 ⟨rfl, hb⟩; refine ⟨_, rfl, ?_⟩; have n0_ := Aside0.mk (below_step (by repeat (first | (with_reducible first | exact HB.out | apply below_alloc | apply pw_below_drewN | apply below_drew1) | exact HB.out)) hb); clear HB; have HB := n0_; clear n0_; (try clear hb); (try clear hb2); (try clear hk); (try clear hi)) | ((with_reducible refine gate_callee (f := 14) rfl ?_); refine goesL_ (some 13) rfl rfl Tryd.func14 (by kernel_rfl) rfl #[.string a0] rfl (by (try simp only [List.map_toArray, List.map_cons, List.map_nil]); first | done | rfl | (simp only [List.length_drop, List.length_take]; rfl)) ?_; (with_reducible refine (lex_Scan.calls k a0 t241 t242 t243 _ ?side1 A4.out).mono ?_); (case side1 => first | exact hG | exact hG.drewN _ | exact hG.drew | exact hG.below (by repeat (first | (with_reducible first | exact HB.out | apply below_alloc | apply pw_below_drewN | apply below_drew1) | exact HB.out)) | (refine hG.below ?_; (repeat (first | (with_reducible exact Below.refl _ _) | (with_reducible refine pw_below_drewN ?_ _) | (with_reducible refine below_drew ?_) | (with_reducible refine below_alloc ?_ _))))); rintro e w22 ⟨v244, rfl, ho0, hb⟩; refine ⟨_, rfl, ?_⟩; have n0_ := Aside0.mk (Kd.S_lower ho0 (below_size (by repeat (first | (with_reducible first | exact HB.out | apply below_alloc | apply pw_below_drewN | apply below_drew1) | exact HB.out)))); have n1_ := Aside0.mk (below_step (by repeat (first | (with_reducible first | exact HB.out | apply below_alloc | apply pw_below_drewN | apply below_drew1) | exact HB.out)) hb); clear HB; have HO245 := n0_; have HB := n1_; clear n0_ n1_; (try clear hb); (try clear hb2); (try clear hk); (try clear hi); (try clear ho0)) | ((with_reducible refine gate_callee (f := 15) rfl ?_); refine goesL_ (some 19) rfl rfl Tryd.func15 (by kernel_rfl) rfl #[.string a0] rfl (by (try simp only [List.map_toArray, List.map_cons, List.map_nil]); first | done | rfl | (simp only [List.length_drop, List.length_take]; rfl)) ?_; (with_reducible refine (rookeryref15_Scan.calls k a0 t246 t247 t248 _ A5.out).mono ?_); rintro e w23 ⟨v249, rfl, ho0, hb⟩; refine ⟨_, rfl, ?_⟩; have n0_ := Aside0.mk (Kd.S_elder' (by (with_reducible repeat (first | apply Kd.S_alloc | apply Kd.S_drewN | apply Kd.S_drew)); exact HO245.out) (Kd.S_base ho0) hb); have n1_ := Aside0.mk (Kd.S_lower (Kd.S_new' ho0 (Kd.S_lt (by (with_reducible repeat (first | apply Kd.S_alloc | apply Kd.S_drewN | apply Kd.S_drew)); exact HO245.out))) (below_size (by repeat (first | (with_reducible first | exact HB.out | apply below_alloc | apply pw_below_drewN | apply below_drew1) | exact HB.out)))); have n2_ := Aside0.mk (below_step (by repeat (first | (with_reducible first | exact HB.out | apply below_alloc | apply pw_below_drewN | apply below_drew1) | exact HB.out)) hb); clear HO245; clear HB; have HO245 := n0_; have HO250 := n1_; have HB := n2_; clear n0_ n1_ n2_; (try clear hb); (try clear hb2); (try clear hk); (try clear hi); (try clear ho0); obtain ⟨Ao24, co24, eo24⟩ := Kd.S_slice HO245.out; subst eo24; obtain ⟨Ao25, co25, eo25⟩ := Kd.S_slice HO250.out; subst eo25) | ((with_reducible refine gate_callee (f := 16) rfl ?_); refine goesL_ (some 25) rfl rfl Tryd.func16 (by kernel_rfl) rfl #[.slice Ao24 t241.length co24, .slice Ao25 t246.length co25] rfl (by (try simp only [List.map_toArray, List.map_cons, List.map_nil]); first | done | rfl | (simp only [List.length_drop, List.length_take]; rfl)) ?_; (with_reducible refine (rookeryref15_All.calls k _ _ t241 _ _ t246 false _ ?side1 ?side2 ?side3 ?side4 A6.out).mono ?_); (case side1 => repeat (first | exact (Kd.S_reads' HO245.out).2.2 | (with_reducible refine Kd.C_alloc ?_ _) | (with_reducible refine Kd.C_drewN ?_ _) | (with_reducible refine Kd.C_drew ?_))); (case side2 => exact (Kd.S_reads' HO245.out).2.1); (case side3 => repeat (first | exact (Kd.S_reads' HO250.out).2.2 | (with_reducible refine Kd.C_alloc ?_ _) | (with_reducible refine Kd.C_drewN ?_ _) | (with_reducible refine Kd.C_drew ?_))); (case side4 => exact (Kd.S_reads' HO250.out).2.1); rintro e w26 ⟨rfl, hb⟩; refine ⟨_, rfl, ?_⟩; have n0_ := Aside0.mk (Kd.S_below (by (with_reducible repeat (first | apply Kd.S_alloc | apply Kd.S_drewN | apply Kd.S_drew)); exact HO245.out) hb); have n1_ := Aside0.mk (Kd.S_below (by (with_reducible repeat (first | apply Kd.S_alloc | apply Kd.S_drewN | apply Kd.S_drew)); exact HO250.out) hb); have n2_ := Aside0.mk (below_step (by repeat (first | (with_reducible first | exact HB.out | apply below_alloc | apply pw_below_drewN | apply below_drew1) | exact HB.out)) hb); clear HO245; clear HO250; clear HB; have HO245 := n0_; have HO250 := n1_; have HB := n2_; clear n0_ n1_ n2_; (try clear hb); (try clear hb2); (try clear hk); (try clear hi)))
      go_ret
      exact ⟨by first | rfl | (simp [errW_none, errW_some] <;> rfl) | (simp [*, errW_none, errW_some] <;> rfl), by repeat (first | (with_reducible first | exact HB.out | apply below_alloc | apply pw_below_drewN | apply below_drew1) | exact HB.out)⟩
  · replace c3 := Bool.eq_false_iff.mpr c3
    subst c3
    have H1 : (some false) = some r := by rw [if_neg (show ¬ (false = true) by decide)] at H; exact H
    clear H
    have H := H1
    clear H1
    obtain rfl := Option.some.inj H
    go_enter Tryd.func3, Tryd.ntmps3
    go_wp2_with (first | ((with_reducible refine gate_callee (f := 13) rfl ?_); refine goesL_ (some 9) rfl rfl Tryd.func13 (by kernel_rfl) rfl #[] rfl (by (try simp only [List.map_toArray, List.map_cons, List.map_nil]); first | done | rfl | (simp only [List.length_drop, List.length_take]; rfl)) ?_; (with_reducible refine (rookerylaw15_alive.calls k  false _ ?side1 A2.out).mono ?_); (case side1 => first | exact hG | exact hG.drewN _ | exact hG.drew | exact hG.below (by repeat (first | (with_reducible first | exact HB.out | apply below_alloc | apply pw_below_drewN | apply below_drew1) | exact HB.out)) | (refine hG.below ?_; (repeat (first | (with_reducible exact Below.refl _ _) | (with_reducible refine pw_below_drewN ?_ _) | (with_reducible refine below_drew ?_) | (with_reducible refine below_alloc ?_ _))))); rintro e w27 ⟨rfl, hb⟩; refine ⟨_, rfl, ?_⟩; have n0_ := Aside0.mk (below_step (by repeat (first | (with_reducible first | exact HB.out | apply below_alloc | apply pw_below_drewN | apply below_drew1) | exact HB.out)) hb); clear HB; have HB := n0_; clear n0_; (try clear hb); (try clear hb2); (try clear hk); (try clear hi)))
    go_ret
    exact ⟨by first | rfl | (simp [errW_none, errW_some] <;> rfl) | (simp [*, errW_none, errW_some] <;> rfl), by repeat (first | (with_reducible first | exact HB.out | apply below_alloc | apply pw_below_drewN | apply below_drew1) | exact HB.out)⟩

/-- THE ONE PURE STATEMENT of rookerylaw15_LexScans: yours. -/
def rookerylaw15_LexScans.Pure : Prop := ∀ (a0 : ByteArray), a0.size ≤ 140737488351232 → ∃ k, rookerylaw15_LexScans.f k a0 = some true
theorem rookerylaw15_LexScans.walk (P : rookerylaw15_LexScans.Pure) (a0 : ByteArray) (w : World) (w0 : a0.size ≤ 140737488351232) (hG : Glob w) :
    Calls Tryd.prog 3 #[.string a0] w fun e w' => e = .returned (.bool true) ∧ Below w.heap.size w w' := by
  obtain ⟨k, h⟩ := P a0 w0
  refine (rookerylaw15_LexScans.calls k a0 true w hG h).mono ?_
  rintro e w' ⟨rfl, hd⟩
  exact ⟨rfl, hd⟩

/-! ### rookerylaw15_LexPlaces: function 6 -/
mutual
def rookerylaw15_LexPlaces.l0 : Nat → ByteArray → List (S33) → Int → Option (Bool)
  | 0, _, _, _ => none
  | k + 1, x0, x3, x6 => if x6 < (x3.length : Int) then (if 0 ≤ x6 then (if ((rd_T33 x3 x6).f4) < 0 then (rookerylaw15_LexPlaces.j1 k x0 x3 x6 ((rd_T33 x3 x6).f4) true) else (if ((rd_T33 x3 x6).f4) ≥ (x0.size : Int) then (rookerylaw15_LexPlaces.j1 k x0 x3 x6 ((rd_T33 x3 x6).f4) true) else (if x6 > 0 then (if 0 ≤ (wrap64 (x6 - 1)) then (if (wrap64 (x6 - 1)) < (x3.length : Int) then (rookerylaw15_LexPlaces.j1 k x0 x3 x6 ((rd_T33 x3 x6).f4) (decide (((rd_T33 x3 x6).f4) ≤ ((rd_T33 x3 (wrap64 (x6 - 1))).f4)))) else (none)) else (none)) else (rookerylaw15_LexPlaces.j1 k x0 x3 x6 ((rd_T33 x3 x6).f4) false)))) else (none)) else (some true)
def rookerylaw15_LexPlaces.j1 : Nat → ByteArray → List (S33) → Int → Int → Bool → Option (Bool)
  | 0, _, _, _, _, _ => none
  | k + 1, x0, x3, x6, x7, x59 => if x59 = true then (some false) else (if 0 ≤ x6 then (if x6 < (x3.length : Int) then (if (((rd_T33 x3 x6).f1).size : Int) > 0 then (if (wrap64 (x7 + (((rd_T33 x3 x6).f1).size : Int))) > (x0.size : Int) then (rookerylaw15_LexPlaces.j2 k x0 x3 x6 x7 true) else (if 0 ≤ x7 then (if x7 ≤ (wrap64 (x7 + (((rd_T33 x3 x6).f1).size : Int))) then (if (wrap64 (x7 + (((rd_T33 x3 x6).f1).size : Int))) ≤ (x0.size : Int) then (rookerylaw15_LexPlaces.j2 k x0 x3 x6 x7 ((x0.extract (x7 : Int).toNat ((wrap64 (x7 + (((rd_T33 x3 x6).f1).size : Int))) : Int).toNat).toList != ((rd_T33 x3 x6).f1).toList)) else (none)) else (none)) else (none))) else (rookerylaw15_LexPlaces.j2 k x0 x3 x6 x7 false)) else (none)) else (none))
def rookerylaw15_LexPlaces.j2 : Nat → ByteArray → List (S33) → Int → Int → Bool → Option (Bool)
  | 0, _, _, _, _, _ => none
  | k + 1, x0, x3, x6, x7, x89 => if x89 = true then (some false) else (if 0 ≤ x6 then (if x6 < (x3.length : Int) then (if ((rd_T33 x3 x6).f0) = 4 then (if 0 ≤ x7 then (if x7 < (x0.size : Int) then (if (bt x0 x7) = 34 then (rookerylaw15_LexPlaces.l0 k x0 x3 (wrap64 (x6 + 1))) else (some false)) else (none)) else (none)) else (rookerylaw15_LexPlaces.l0 k x0 x3 (wrap64 (x6 + 1)))) else (none)) else (none))
end
def rookerylaw15_LexPlaces.f (k : Nat) (a0 : ByteArray) : Option (Bool) := (rookerylaw15_alive.f k).bind fun t252 => (if t252 = true then ((lex_Scan.f k a0).bind fun bt253 => (if bt253.2.2 = 0 then (rookerylaw15_LexPlaces.l0 k a0 bt253.1 0) else (if bt253.2.1 ≥ 0 then (some (decide (bt253.2.1 ≤ (a0.size : Int)))) else (some false)))) else (some false))
theorem rookerylaw15_LexPlaces.mono_l : ∀ k, (∀ y0 y1 y2, LeO (rookerylaw15_LexPlaces.l0 k y0 y1 y2) (rookerylaw15_LexPlaces.l0 (k + 1) y0 y1 y2)) ∧ (∀ y0 y1 y2 y3 y4, LeO (rookerylaw15_LexPlaces.j1 k y0 y1 y2 y3 y4) (rookerylaw15_LexPlaces.j1 (k + 1) y0 y1 y2 y3 y4)) ∧ (∀ y0 y1 y2 y3 y4, LeO (rookerylaw15_LexPlaces.j2 k y0 y1 y2 y3 y4) (rookerylaw15_LexPlaces.j2 (k + 1) y0 y1 y2 y3 y4))
  | 0 => ⟨fun _ _ _ r h => by simp [rookerylaw15_LexPlaces.l0] at h, fun _ _ _ _ _ r h => by simp [rookerylaw15_LexPlaces.j1] at h, fun _ _ _ _ _ r h => by simp [rookerylaw15_LexPlaces.j2] at h⟩
  | k + 1 => by
    obtain ⟨ih0, ih1, ih2⟩ := rookerylaw15_LexPlaces.mono_l k
    refine ⟨?_, ?_, ?_⟩
    · intro y0 y1 y2
      unfold rookerylaw15_LexPlaces.l0
      repeat' first
      | (with_reducible exact ih0 _ _ _)
      | (with_reducible exact ih1 _ _ _ _ _)
      | (with_reducible exact ih2 _ _ _ _ _)
      | (with_reducible exact lex_Scan.mono _ _)
      | (with_reducible exact rookerylaw15_alive.mono _)
      | (with_reducible exact LeO.refl _)
      | (with_reducible exact LeO.none _)
      | (with_reducible refine LeO.ite ?_ ?_)
      | (with_reducible refine LeO.bind ?_ (fun _ => ?_))
      | exact ih0 _ _ _
      | exact ih1 _ _ _ _ _
      | exact ih2 _ _ _ _ _
      | exact lex_Scan.mono _ _
      | exact rookerylaw15_alive.mono _
      | exact LeO.none _
      | refine LeO.ite ?_ ?_
      | refine LeO.bind ?_ (fun _ => ?_)
    · intro y0 y1 y2 y3 y4
      unfold rookerylaw15_LexPlaces.j1
      repeat' first
      | (with_reducible exact ih0 _ _ _)
      | (with_reducible exact ih1 _ _ _ _ _)
      | (with_reducible exact ih2 _ _ _ _ _)
      | (with_reducible exact lex_Scan.mono _ _)
      | (with_reducible exact rookerylaw15_alive.mono _)
      | (with_reducible exact LeO.refl _)
      | (with_reducible exact LeO.none _)
      | (with_reducible refine LeO.ite ?_ ?_)
      | (with_reducible refine LeO.bind ?_ (fun _ => ?_))
      | exact ih0 _ _ _
      | exact ih1 _ _ _ _ _
      | exact ih2 _ _ _ _ _
      | exact lex_Scan.mono _ _
      | exact rookerylaw15_alive.mono _
      | exact LeO.none _
      | refine LeO.ite ?_ ?_
      | refine LeO.bind ?_ (fun _ => ?_)
    · intro y0 y1 y2 y3 y4
      unfold rookerylaw15_LexPlaces.j2
      repeat' first
      | (with_reducible exact ih0 _ _ _)
      | (with_reducible exact ih1 _ _ _ _ _)
      | (with_reducible exact ih2 _ _ _ _ _)
      | (with_reducible exact lex_Scan.mono _ _)
      | (with_reducible exact rookerylaw15_alive.mono _)
      | (with_reducible exact LeO.refl _)
      | (with_reducible exact LeO.none _)
      | (with_reducible refine LeO.ite ?_ ?_)
      | (with_reducible refine LeO.bind ?_ (fun _ => ?_))
      | exact ih0 _ _ _
      | exact ih1 _ _ _ _ _
      | exact ih2 _ _ _ _ _
      | exact lex_Scan.mono _ _
      | exact rookerylaw15_alive.mono _
      | exact LeO.none _
      | refine LeO.ite ?_ ?_
      | refine LeO.bind ?_ (fun _ => ?_)
theorem rookerylaw15_LexPlaces.mono : ∀ a0 k, LeO (rookerylaw15_LexPlaces.f k a0) (rookerylaw15_LexPlaces.f (k + 1) a0) := by
  intro a0 k
  obtain ⟨ih0, ih1, ih2⟩ := rookerylaw15_LexPlaces.mono_l k
  unfold rookerylaw15_LexPlaces.f
  repeat' first
      | (with_reducible exact ih0 _ _ _)
      | (with_reducible exact ih1 _ _ _ _ _)
      | (with_reducible exact ih2 _ _ _ _ _)
      | (with_reducible exact lex_Scan.mono _ _)
      | (with_reducible exact rookerylaw15_alive.mono _)
      | (with_reducible exact LeO.refl _)
      | (with_reducible exact LeO.none _)
      | (with_reducible refine LeO.ite ?_ ?_)
      | (with_reducible refine LeO.bind ?_ (fun _ => ?_))
      | exact ih0 _ _ _
      | exact ih1 _ _ _ _ _
      | exact ih2 _ _ _ _ _
      | exact lex_Scan.mono _ _
      | exact rookerylaw15_alive.mono _
      | exact LeO.none _
      | refine LeO.ite ?_ ?_
      | refine LeO.bind ?_ (fun _ => ?_)
set_option maxHeartbeats 8000000 in
set_option maxRecDepth 100000 in
theorem rookerylaw15_LexPlaces.calls (k : Nat) (a0 : ByteArray) (r : Bool) (w : World) (hG : Glob w) (h : rookerylaw15_LexPlaces.f k a0 = some r) :
    Calls Tryd.prog 6 #[.string a0] w fun e w' => e = .returned (.bool r) ∧ Below w.heap.size w w' := by
  have HB := Aside0.mk (Below.refl w.heap.size w)
  have H : ((rookerylaw15_alive.f k).bind fun t252 => (if t252 = true then ((lex_Scan.f k a0).bind fun bt253 => (if bt253.2.2 = 0 then (rookerylaw15_LexPlaces.l0 k a0 bt253.1 0) else (if bt253.2.1 ≥ 0 then (some (decide (bt253.2.1 ≤ (a0.size : Int)))) else (some false)))) else (some false))) = some r := h
  clear h
  replace H := Option.bind_eq_some_iff.mp H
  obtain ⟨t252, A20, H⟩ := H
  replace H : (if t252 = true then ((lex_Scan.f k a0).bind fun bt253 => (if bt253.2.2 = 0 then (rookerylaw15_LexPlaces.l0 k a0 bt253.1 0) else (if bt253.2.1 ≥ 0 then (some (decide (bt253.2.1 ≤ (a0.size : Int)))) else (some false)))) else (some false)) = some r := H
  have A2 := Aside0.mk A20
  clear A20
  by_cases c3 : t252 = true
  · subst c3
    have H1 : ((lex_Scan.f k a0).bind fun bt253 => (if bt253.2.2 = 0 then (rookerylaw15_LexPlaces.l0 k a0 bt253.1 0) else (if bt253.2.1 ≥ 0 then (some (decide (bt253.2.1 ≤ (a0.size : Int)))) else (some false)))) = some r := by rw [if_pos rfl] at H; exact H
    clear H
    have H := H1
    clear H1
    replace H := Option.bind_eq_some_iff.mp H
    obtain ⟨⟨t253, t254, t255⟩, A40, H⟩ := H
    replace H : (if t255 = 0 then (rookerylaw15_LexPlaces.l0 k a0 t253 0) else (if t254 ≥ 0 then (some (decide (t254 ≤ (a0.size : Int)))) else (some false))) = some r := H
    have A4 := Aside0.mk A40
    clear A40
    by_cases c5 : t255 = 0
    · rw [if_pos c5] at H
      have c5b0 : (t255 == 0) = true := beq_iff_eq.mpr c5
      have c5b1 : (t255 != 0) = false := bne_eq_false_iff_eq.mpr c5
      clear c5
      have H' := Aside0.mk H
      clear H
      go_enter Tryd.func6, Tryd.ntmps6
      go_wp2_with (first | (go_at_call 13; (with_reducible refine (rookerylaw15_alive.calls k  true _ ?side1 A2.out).mono ?_); (case side1 => first | exact hG | exact hG.drewN _ | exact hG.drew | exact hG.below (by repeat (first | (with_reducible first | exact HB.out | apply below_alloc | apply pw_below_drewN | apply below_drew1) | exact HB.out)) | (refine hG.below ?_; (repeat (first | (with_reducible exact Below.refl _ _) | (with_reducible refine pw_below_drewN ?_ _) | (with_reducible refine below_drew ?_) | (with_reducible refine below_alloc ?_ _))))); rintro e w6 ⟨rfl, hb⟩; have n0_ := Aside0.mk (below_step (by repeat (first | (with_reducible first | exact HB.out | apply below_alloc | apply pw_below_drewN | apply below_drew1) | exact HB.out)) hb); clear HB; have HB := n0_; clear n0_; (try clear hb); (try clear hb2); (try clear hk); (try clear hi)) | (go_at_call 14; (with_reducible refine (lex_Scan.calls k a0 t253 t254 t255 _ ?side1 A4.out).mono ?_); (case side1 => first | exact hG | exact hG.drewN _ | exact hG.drew | exact hG.below (by repeat (first | (with_reducible first | exact HB.out | apply below_alloc | apply pw_below_drewN | apply below_drew1) | exact HB.out)) | (refine hG.below ?_; (repeat (first | (with_reducible exact Below.refl _ _) | (with_reducible refine pw_below_drewN ?_ _) | (with_reducible refine below_drew ?_) | (with_reducible refine below_alloc ?_ _))))); rintro e w7 ⟨v256, rfl, ho0, hb⟩; have n0_ := Aside0.mk (Kd.S_lower ho0 (below_size (by repeat (first | (with_reducible first | exact HB.out | apply below_alloc | apply pw_below_drewN | apply below_drew1) | exact HB.out)))); have n1_ := Aside0.mk (below_step (by repeat (first | (with_reducible first | exact HB.out | apply below_alloc | apply pw_below_drewN | apply below_drew1) | exact HB.out)) hb); clear HB; have HO257 := n0_; have HB := n1_; clear n0_ n1_; (try clear hb); (try clear hb2); (try clear hk); (try clear hi); (try clear ho0)))
      repeat (go_quiet (first | (go_at_call 13; (with_reducible refine (rookerylaw15_alive.calls k  true _ ?side1 A2.out).mono ?_); (case side1 => first | exact hG | exact hG.drewN _ | exact hG.drew | exact hG.below (by repeat (first | (with_reducible first | exact HB.out | apply below_alloc | apply pw_below_drewN | apply below_drew1) | exact HB.out)) | (refine hG.below ?_; (repeat (first | (with_reducible exact Below.refl _ _) | (with_reducible refine pw_below_drewN ?_ _) | (with_reducible refine below_drew ?_) | (with_reducible refine below_alloc ?_ _))))); rintro e w6 ⟨rfl, hb⟩; have n0_ := Aside0.mk (below_step (by repeat (first | (with_reducible first | exact HB.out | apply below_alloc | apply pw_below_drewN | apply below_drew1) | exact HB.out)) hb); clear HB; have HB := n0_; clear n0_; (try clear hb); (try clear hb2); (try clear hk); (try clear hi)) | (go_at_call 14; (with_reducible refine (lex_Scan.calls k a0 t253 t254 t255 _ ?side1 A4.out).mono ?_); (case side1 => first | exact hG | exact hG.drewN _ | exact hG.drew | exact hG.below (by repeat (first | (with_reducible first | exact HB.out | apply below_alloc | apply pw_below_drewN | apply below_drew1) | exact HB.out)) | (refine hG.below ?_; (repeat (first | (with_reducible exact Below.refl _ _) | (with_reducible refine pw_below_drewN ?_ _) | (with_reducible refine below_drew ?_) | (with_reducible refine below_alloc ?_ _))))); rintro e w7 ⟨v256, rfl, ho0, hb⟩; have n0_ := Aside0.mk (Kd.S_lower ho0 (below_size (by repeat (first | (with_reducible first | exact HB.out | apply below_alloc | apply pw_below_drewN | apply below_drew1) | exact HB.out)))); have n1_ := Aside0.mk (below_step (by repeat (first | (with_reducible first | exact HB.out | apply below_alloc | apply pw_below_drewN | apply below_drew1) | exact HB.out)) hb); clear HB; have HO257 := n0_; have HB := n1_; clear n0_ n1_; (try clear hb); (try clear hb2); (try clear hk); (try clear hi); (try clear ho0))); try go_wp2_with (first | (go_at_call 13; (with_reducible refine (rookerylaw15_alive.calls k  true _ ?side1 A2.out).mono ?_); (case side1 => first | exact hG | exact hG.drewN _ | exact hG.drew | exact hG.below (by repeat (first | (with_reducible first | exact HB.out | apply below_alloc | apply pw_below_drewN | apply below_drew1) | exact HB.out)) | (refine hG.below ?_; (repeat (first | (with_reducible exact Below.refl _ _) | (with_reducible refine pw_below_drewN ?_ _) | (with_reducible refine below_drew ?_) | (with_reducible refine below_alloc ?_ _))))); rintro e w6 ⟨rfl, hb⟩; have n0_ := Aside0.mk (below_step (by repeat (first | (with_reducible first | exact HB.out | apply below_alloc | apply pw_below_drewN | apply below_drew1) | exact HB.out)) hb); clear HB; have HB := n0_; clear n0_; (try clear hb); (try clear hb2); (try clear hk); (try clear hi)) | (go_at_call 14; (with_reducible refine (lex_Scan.calls k a0 t253 t254 t255 _ ?side1 A4.out).mono ?_); (case side1 => first | exact hG | exact hG.drewN _ | exact hG.drew | exact hG.below (by repeat (first | (with_reducible first | exact HB.out | apply below_alloc | apply pw_below_drewN | apply below_drew1) | exact HB.out)) | (refine hG.below ?_; (repeat (first | (with_reducible exact Below.refl _ _) | (with_reducible refine pw_below_drewN ?_ _) | (with_reducible refine below_drew ?_) | (with_reducible refine below_alloc ?_ _))))); rintro e w7 ⟨v256, rfl, ho0, hb⟩; have n0_ := Aside0.mk (Kd.S_lower ho0 (below_size (by repeat (first | (with_reducible first | exact HB.out | apply below_alloc | apply pw_below_drewN | apply below_drew1) | exact HB.out)))); have n1_ := Aside0.mk (below_step (by repeat (first | (with_reducible first | exact HB.out | apply below_alloc | apply pw_below_drewN | apply below_drew1) | exact HB.out)) hb); clear HB; have HO257 := n0_; have HB := n1_; clear n0_ n1_; (try clear hb); (try clear hb2); (try clear hk); (try clear hi); (try clear ho0))))
      go_loopg [6] k (fun kq v6 w' => ∃ (x6_1 : Int), v6 = .int .i64 x6_1 ∧ Aside0 (rookerylaw15_LexPlaces.l0 kq a0 t253 x6_1 = some r) ∧ Aside0 (kq ≤ k) ∧ Aside0 (Kd.S k33 33 w' w.heap.size (fun _ => True) v256 t253) ∧ Aside0 (Below w.heap.size w w'))
      case atStart => exact ⟨(0), (by first | rfl | (simp; done) | (simp [*]; done)), H', ⟨Nat.le_refl _⟩, ⟨by (with_reducible repeat (first | apply Kd.S_alloc | apply Kd.S_drewN | apply Kd.S_drew)); exact HO257.out⟩, ⟨by repeat (first | (with_reducible first | exact HB.out | apply below_alloc | apply pw_below_drewN | apply below_drew1) | exact HB.out)⟩⟩
      case round =>
        clear H'
        try clear p2
        try clear c3
        try clear c5
        try clear c5b0
        try clear c5b1
        try clear c6
        obtain ⟨x6_1, rfl, HA, HK1, HO_3, HB⟩ := hrel
        cases gk with
        | zero => exact absurd HA.out (by simp [rookerylaw15_LexPlaces.l0])
        | succ k1 =>
          have H := HA.out
          clear HA
          simp only [rookerylaw15_LexPlaces.l0] at H
          by_cases c8 : x6_1 < (t253.length : Int)
          · rw [if_pos c8] at H
            have c8b0 : decide (x6_1 < (t253.length : Int)) = true := decide_eq_true c8
            clear c8
            by_cases c9 : 0 ≤ x6_1
            · rw [if_pos c9] at H
              have c9b0 : decide (0 ≤ x6_1) = true := decide_eq_true c9
              clear c9
              have HC10 := Aside0.mk H
              clear H
              obtain ⟨Ao11, co11, eo11⟩ := Kd.S_slice HO_3.out
              subst eo11
              have p258 : 0 ≤ (x6_1 : Int) := of_decide_eq_true (by first | (with_reducible assumption) | assumption)
              have q258 : x6_1 < (t253.length : Int) := of_decide_eq_true (by first | (with_reducible assumption) | assumption)
              obtain ⟨ad258, A258_3, c258_3, e258, hx258_0, hx258_1, hx258_2, hx258_3, hx258_4, hl258_3, hi258_3⟩ := at_T33 (Kd.S_reads' HO_3.out).2.2 x6_1 p258 q258
              cases e258
              obtain ⟨ce258, hce258, hMe258, hcc258⟩ := Kd.S_get HO_3.out z33 x6_1 p258 (by first | exact q258 | exact of_decide_eq_true (by first | (with_reducible assumption) | assumption) | (have e_ := (Kd.S_reads' HO_3.out).1; omega))
              obtain ⟨ve258_3, rfl, ge258_3⟩ := k33_openM hMe258
              have hv258_3 := hcc258 3 _ rfl
              rw [add_field _ _ 3 (by omega)] at hv258_3
              replace hv258_3 := Option.some.inj (hv258_3.symm.trans hx258_3)
              rw [hv258_3] at ge258_3
              have HL258_3 := Aside0.mk (show Kd.R (Kd.int .u8) 5 _ _ _ _ ((rd_T33 t253 x6_1).f3) from ge258_3)
              clear hv258_3 ge258_3
              clear hcc258 hce258
              have HR258_3 := Aside0.mk hi258_3
              have HC258_3 := Aside0.mk hl258_3
              clear hi258_3 hl258_3
              replace p258 := eq_true p258
              replace q258 := eq_true q258
              go_upto_region 10 with (fail)
              repeat (go_quiet (fail); go_upto_region 10 with (fail))
              go_cut [59] (fun v59 wc => ∃ (kq : Nat) (x59_9 : Bool), v59 = .bool x59_9 ∧ Aside0 (rookerylaw15_LexPlaces.j1 kq a0 t253 x6_1 ((rd_T33 t253 x6_1).f4) x59_9 = some r) ∧ Aside0 (kq ≤ k1) ∧ Aside0 (Kd.S k33 33 wc w.heap.size (fun _ => True) (.slice (some ad258) t253.length co11) t253) ∧ Aside0 (Kd.C (Kd.int .u8) wc A258_3 ((rd_T33 t253 x6_1).f3).length ((rd_T33 t253 x6_1).f3)) ∧ Aside0 (Below w.heap.size w wc))
              case first =>
                have H := HC10.out
                clear HC10
                by_cases c12 : ((rd_T33 t253 x6_1).f4) < 0
                · rw [if_pos c12] at H
                  have c12b0 : decide (((rd_T33 t253 x6_1).f4) < 0) = true := decide_eq_true c12
                  clear c12
                  (first | rw [c12b0] | (simp only [i64_w, i32_w]; rw [c12b0]) | skip)
                  have H' := Aside0.mk H
                  clear H
                  go_wp2
                  repeat (go_quiet (fail); try go_wp2)
                  go_meet
                  case rel => exact ⟨_, (true), (by first | rfl | (simp; done) | (simp [*]; done)), H', ⟨by have := HK1.out; first | omega | exact Nat.le_refl _⟩, ⟨by (with_reducible repeat (first | apply Kd.S_alloc | apply Kd.S_drewN | apply Kd.S_drew)); exact HO_3.out⟩, ⟨by repeat (first | (with_reducible exact HR258_3.out) | (with_reducible refine Kd.C_alloc ?_ _) | (with_reducible refine Kd.C_drewN ?_ _) | (with_reducible refine Kd.C_drew ?_) | exact HR258_3.out)⟩, ⟨by repeat (first | (with_reducible first | exact HB.out | apply below_alloc | apply pw_below_drewN | apply below_drew1) | exact HB.out)⟩⟩
                · rw [if_neg c12] at H
                  have c12b0 : decide (((rd_T33 t253 x6_1).f4) < 0) = false := decide_eq_false c12
                  clear c12
                  (first | rw [c12b0] | (simp only [i64_w, i32_w]; rw [c12b0]) | skip)
                  by_cases c13 : ((rd_T33 t253 x6_1).f4) ≥ (a0.size : Int)
                  · rw [if_pos c13] at H
                    have c13b0 : decide ((a0.size : Int) ≤ ((rd_T33 t253 x6_1).f4)) = true := decide_eq_true c13
                    clear c13
                    have H' := Aside0.mk H
                    clear H
                    go_wp2
                    repeat (go_quiet (fail); try go_wp2)
                    go_meet
                    case rel => exact ⟨_, (true), (by first | rfl | (simp; done) | (simp [*]; done)), H', ⟨by have := HK1.out; first | omega | exact Nat.le_refl _⟩, ⟨by (with_reducible repeat (first | apply Kd.S_alloc | apply Kd.S_drewN | apply Kd.S_drew)); exact HO_3.out⟩, ⟨by repeat (first | (with_reducible exact HR258_3.out) | (with_reducible refine Kd.C_alloc ?_ _) | (with_reducible refine Kd.C_drewN ?_ _) | (with_reducible refine Kd.C_drew ?_) | exact HR258_3.out)⟩, ⟨by repeat (first | (with_reducible first | exact HB.out | apply below_alloc | apply pw_below_drewN | apply below_drew1) | exact HB.out)⟩⟩
                  · rw [if_neg c13] at H
                    have c13b0 : decide ((a0.size : Int) ≤ ((rd_T33 t253 x6_1).f4)) = false := decide_eq_false c13
                    clear c13
                    by_cases c14 : x6_1 > 0
                    · rw [if_pos c14] at H
                      have c14b0 : decide (0 < x6_1) = true := decide_eq_true c14
                      clear c14
                      obtain ⟨ji15, hji15⟩ : ∃ j_ : Int, (wrap64 (x6_1 - 1)) = j_ := ⟨_, rfl⟩
                      replace H : (if 0 ≤ (ji15) then (if (ji15) < (t253.length : Int) then (rookerylaw15_LexPlaces.j1 k1 a0 t253 x6_1 ((rd_T33 t253 x6_1).f4) (decide (((rd_T33 t253 x6_1).f4) ≤ ((rd_T33 t253 (ji15)).f4)))) else (none)) else (none)) = some r := by first | (rw [hji15] at H; exact H) | (simp only [hji15] at H ⊢; exact H)
                      have hji15w : (IntKind.i64.wrap (x6_1 - 1)) = ji15 := (i64_w _).trans hji15
                      by_cases c16 : 0 ≤ (ji15)
                      · rw [if_pos c16] at H
                        have c16b0 : decide (0 ≤ (ji15)) = true := decide_eq_true c16
                        clear c16
                        by_cases c17 : (ji15) < (t253.length : Int)
                        · rw [if_pos c17] at H
                          have c17b0 : decide ((ji15) < (t253.length : Int)) = true := decide_eq_true c17
                          clear c17
                          have H' := Aside0.mk H
                          clear H
                          have p259 : 0 ≤ ((ji15) : Int) := of_decide_eq_true (by first | (with_reducible assumption) | assumption)
                          have q259 : (ji15) < (t253.length : Int) := of_decide_eq_true (by first | (with_reducible assumption) | assumption)
                          obtain ⟨ad259, A259_3, c259_3, e259, hx259_0, hx259_1, hx259_2, hx259_3, hx259_4, hl259_3, hi259_3⟩ := at_T33 (Kd.S_reads' HO_3.out).2.2 (ji15) p259 q259
                          obtain rfl : ad258 = ad259 := (by injection e259)
                          obtain ⟨ce259, hce259, hMe259, hcc259⟩ := Kd.S_get HO_3.out z33 (ji15) p259 (by first | exact q259 | exact of_decide_eq_true (by first | (with_reducible assumption) | assumption) | (have e_ := (Kd.S_reads' HO_3.out).1; omega))
                          obtain ⟨ve259_3, rfl, ge259_3⟩ := k33_openM hMe259
                          have hv259_3 := hcc259 3 _ rfl
                          rw [add_field _ _ 3 (by omega)] at hv259_3
                          replace hv259_3 := Option.some.inj (hv259_3.symm.trans hx259_3)
                          rw [hv259_3] at ge259_3
                          have HL259_3 := Aside0.mk (show Kd.R (Kd.int .u8) 5 _ _ _ _ ((rd_T33 t253 (ji15)).f3) from ge259_3)
                          clear hv259_3 ge259_3
                          clear hcc259 hce259
                          have HR259_3 := Aside0.mk hi259_3
                          have HC259_3 := Aside0.mk hl259_3
                          clear hi259_3 hl259_3
                          replace p259 := eq_true p259
                          replace q259 := eq_true q259
                          go_wp2
                          repeat (go_quiet (fail); try go_wp2)
                          go_meet
                          case rel => exact ⟨_, (decide (((rd_T33 t253 x6_1).f4) ≤ ((rd_T33 t253 (ji15)).f4))), (by first | rfl | (simp; done) | (simp only [← hji15] <;> (first | rfl | (simp; done))) | (simp [*]; done)), H', ⟨by have := HK1.out; first | omega | exact Nat.le_refl _⟩, ⟨by (with_reducible repeat (first | apply Kd.S_alloc | apply Kd.S_drewN | apply Kd.S_drew)); exact HO_3.out⟩, ⟨by repeat (first | (with_reducible exact HR258_3.out) | (with_reducible refine Kd.C_alloc ?_ _) | (with_reducible refine Kd.C_drewN ?_ _) | (with_reducible refine Kd.C_drew ?_) | exact HR258_3.out)⟩, ⟨by repeat (first | (with_reducible first | exact HB.out | apply below_alloc | apply pw_below_drewN | apply below_drew1) | exact HB.out)⟩⟩
                        · rw [if_neg c17] at H
                          exact absurd H (by simp)
                      · rw [if_neg c16] at H
                        exact absurd H (by simp)
                    · rw [if_neg c14] at H
                      have c14b0 : decide (0 < x6_1) = false := decide_eq_false c14
                      clear c14
                      have H' := Aside0.mk H
                      clear H
                      go_wp2
                      repeat (go_quiet (fail); try go_wp2)
                      go_meet
                      case rel => exact ⟨_, (false), (by first | rfl | (simp; done) | (simp [*]; done)), H', ⟨by have := HK1.out; first | omega | exact Nat.le_refl _⟩, ⟨by (with_reducible repeat (first | apply Kd.S_alloc | apply Kd.S_drewN | apply Kd.S_drew)); exact HO_3.out⟩, ⟨by repeat (first | (with_reducible exact HR258_3.out) | (with_reducible refine Kd.C_alloc ?_ _) | (with_reducible refine Kd.C_drewN ?_ _) | (with_reducible refine Kd.C_drew ?_) | exact HR258_3.out)⟩, ⟨by repeat (first | (with_reducible first | exact HB.out | apply below_alloc | apply pw_below_drewN | apply below_drew1) | exact HB.out)⟩⟩
              case rest =>
                clear HC10
                try clear c1
                try clear c2
                try clear p2
                try clear q2
                try clear hx2
                try clear c3
                try clear c5
                try clear c5b0
                try clear c5b1
                try clear c6
                try clear p6
                try clear c8
                try clear c8b0
                try clear c9
                try clear c9b0
                try clear c12
                try clear c12b0
                try clear c13
                try clear c13b0
                try clear c14
                try clear c14b0
                try clear c16
                try clear c16b0
                try clear c17
                try clear c17b0
                try clear hx258_0
                try clear hx258_1
                try clear hx258_2
                try clear hx258_3
                try clear hx258_4
                try clear hx259_0
                try clear hx259_1
                try clear hx259_2
                try clear hx259_3
                try clear hx259_4
                try clear p2
                try clear p258
                try clear p259
                try clear q258
                try clear q259
                obtain ⟨kq, x59_9, rfl, HA, HJ9, HO_3, HR258_3, HB⟩ := hcut
                cases kq with
                | zero => exact absurd HA.out (by simp [rookerylaw15_LexPlaces.j1])
                | succ kj9 =>
                  have H := HA.out
                  clear HA
                  simp only [rookerylaw15_LexPlaces.j1] at H
                  by_cases c18 : x59_9 = true
                  · subst c18
                    have H1 : (some false) = some r := by rw [if_pos rfl] at H; exact H
                    clear H
                    have H := H1
                    clear H1
                    obtain rfl := Option.some.inj H
                    go_wp2
                    repeat (go_quiet (fail); try go_wp2)
                    go_ret
                    exact ⟨by first | rfl | (simp [errW_none, errW_some] <;> rfl) | (simp [*, errW_none, errW_some] <;> rfl), by repeat (first | (with_reducible first | exact HB.out | apply below_alloc | apply pw_below_drewN | apply below_drew1) | exact HB.out)⟩
                  · replace c18 := Bool.eq_false_iff.mpr c18
                    subst c18
                    have H1 : (if 0 ≤ x6_1 then (if x6_1 < (t253.length : Int) then (if (((rd_T33 t253 x6_1).f1).size : Int) > 0 then (if (wrap64 (((rd_T33 t253 x6_1).f4) + (((rd_T33 t253 x6_1).f1).size : Int))) > (a0.size : Int) then (rookerylaw15_LexPlaces.j2 kj9 a0 t253 x6_1 ((rd_T33 t253 x6_1).f4) true) else (if 0 ≤ ((rd_T33 t253 x6_1).f4) then (if ((rd_T33 t253 x6_1).f4) ≤ (wrap64 (((rd_T33 t253 x6_1).f4) + (((rd_T33 t253 x6_1).f1).size : Int))) then (if (wrap64 (((rd_T33 t253 x6_1).f4) + (((rd_T33 t253 x6_1).f1).size : Int))) ≤ (a0.size : Int) then (rookerylaw15_LexPlaces.j2 kj9 a0 t253 x6_1 ((rd_T33 t253 x6_1).f4) ((a0.extract (((rd_T33 t253 x6_1).f4) : Int).toNat ((wrap64 (((rd_T33 t253 x6_1).f4) + (((rd_T33 t253 x6_1).f1).size : Int))) : Int).toNat).toList != ((rd_T33 t253 x6_1).f1).toList)) else (none)) else (none)) else (none))) else (rookerylaw15_LexPlaces.j2 kj9 a0 t253 x6_1 ((rd_T33 t253 x6_1).f4) false)) else (none)) else (none)) = some r := by rw [if_neg (show ¬ (false = true) by decide)] at H; exact H
                    clear H
                    have H := H1
                    clear H1
                    by_cases c19 : 0 ≤ x6_1
                    · rw [if_pos c19] at H
                      have c19b0 : decide (0 ≤ x6_1) = true := decide_eq_true c19
                      clear c19
                      by_cases c20 : x6_1 < (t253.length : Int)
                      · rw [if_pos c20] at H
                        have c20b0 : decide (x6_1 < (t253.length : Int)) = true := decide_eq_true c20
                        clear c20
                        have HC21 := Aside0.mk H
                        clear H
                        have p260 : 0 ≤ (x6_1 : Int) := of_decide_eq_true (by first | (with_reducible assumption) | assumption)
                        have q260 : x6_1 < (t253.length : Int) := of_decide_eq_true (by first | (with_reducible assumption) | assumption)
                        obtain ⟨ad260, A260_3, c260_3, e260, hx260_0, hx260_1, hx260_2, hx260_3, hx260_4, hl260_3, hi260_3⟩ := at_T33 (Kd.S_reads' HO_3.out).2.2 x6_1 p260 q260
                        obtain rfl : ad258 = ad260 := (by injection e260)
                        obtain ⟨ce260, hce260, hMe260, hcc260⟩ := Kd.S_get HO_3.out z33 x6_1 p260 (by first | exact q260 | exact of_decide_eq_true (by first | (with_reducible assumption) | assumption) | (have e_ := (Kd.S_reads' HO_3.out).1; omega))
                        obtain ⟨ve260_3, rfl, ge260_3⟩ := k33_openM hMe260
                        have hv260_3 := hcc260 3 _ rfl
                        rw [add_field _ _ 3 (by omega)] at hv260_3
                        replace hv260_3 := Option.some.inj (hv260_3.symm.trans hx260_3)
                        rw [hv260_3] at ge260_3
                        have HL260_3 := Aside0.mk (show Kd.R (Kd.int .u8) 5 _ _ _ _ ((rd_T33 t253 x6_1).f3) from ge260_3)
                        clear hv260_3 ge260_3
                        clear hcc260 hce260
                        have HR260_3 := Aside0.mk hi260_3
                        have HC260_3 := Aside0.mk hl260_3
                        clear hi260_3 hl260_3
                        replace p260 := eq_true p260
                        replace q260 := eq_true q260
                        go_upto_region 13 with (fail)
                        repeat (go_quiet (fail); go_upto_region 13 with (fail))
                        go_cut [89] (fun v89 wc => ∃ (kq : Nat) (x89_20 : Bool), v89 = .bool x89_20 ∧ Aside0 (rookerylaw15_LexPlaces.j2 kq a0 t253 x6_1 ((rd_T33 t253 x6_1).f4) x89_20 = some r) ∧ Aside0 (kq ≤ kj9) ∧ Aside0 (Kd.S k33 33 wc w.heap.size (fun _ => True) (.slice (some ad258) t253.length co11) t253) ∧ Aside0 (Kd.C (Kd.int .u8) wc A258_3 ((rd_T33 t253 x6_1).f3).length ((rd_T33 t253 x6_1).f3)) ∧ Aside0 (Kd.C (Kd.int .u8) wc A260_3 ((rd_T33 t253 x6_1).f3).length ((rd_T33 t253 x6_1).f3)) ∧ Aside0 (Below w.heap.size w wc))
                        case first =>
                          have H := HC21.out
                          clear HC21
                          by_cases c22 : (((rd_T33 t253 x6_1).f1).size : Int) > 0
                          · rw [if_pos c22] at H
                            have c22b0 : decide (0 < (((rd_T33 t253 x6_1).f1).size : Int)) = true := decide_eq_true c22
                            have c22b1 : decide (0 < ((rd_T33 t253 x6_1).f1).size) = true := decide_eq_true (by omega)
                            clear c22
                            (first | rw [c22b0] | (simp only [i64_w, i32_w]; rw [c22b0]) | skip)
                            by_cases c23 : (wrap64 (((rd_T33 t253 x6_1).f4) + (((rd_T33 t253 x6_1).f1).size : Int))) > (a0.size : Int)
                            · rw [if_pos c23] at H
                              have c23b0 : decide ((a0.size : Int) < (wrap64 (((rd_T33 t253 x6_1).f4) + (((rd_T33 t253 x6_1).f1).size : Int)))) = true := decide_eq_true c23
                              clear c23
                              have H' := Aside0.mk H
                              clear H
                              go_wp2
                              repeat (go_quiet (fail); try go_wp2)
                              go_meet
                              case rel => exact ⟨_, (true), (by first | rfl | (simp; done) | (simp [*]; done)), H', ⟨by have := HK1.out; have := HJ9.out; first | omega | exact Nat.le_refl _⟩, ⟨by (with_reducible repeat (first | apply Kd.S_alloc | apply Kd.S_drewN | apply Kd.S_drew)); exact HO_3.out⟩, ⟨by repeat (first | (with_reducible exact HR258_3.out) | (with_reducible refine Kd.C_alloc ?_ _) | (with_reducible refine Kd.C_drewN ?_ _) | (with_reducible refine Kd.C_drew ?_) | exact HR258_3.out)⟩, ⟨by repeat (first | (with_reducible exact HR260_3.out) | (with_reducible refine Kd.C_alloc ?_ _) | (with_reducible refine Kd.C_drewN ?_ _) | (with_reducible refine Kd.C_drew ?_) | exact HR260_3.out)⟩, ⟨by repeat (first | (with_reducible first | exact HB.out | apply below_alloc | apply pw_below_drewN | apply below_drew1) | exact HB.out)⟩⟩
                            · rw [if_neg c23] at H
                              have c23b0 : decide ((a0.size : Int) < (wrap64 (((rd_T33 t253 x6_1).f4) + (((rd_T33 t253 x6_1).f1).size : Int)))) = false := decide_eq_false c23
                              clear c23
                              by_cases c24 : 0 ≤ ((rd_T33 t253 x6_1).f4)
                              · rw [if_pos c24] at H
                                have c24b0 := eq_true c24
                                have c24b1 : decide (0 ≤ ((rd_T33 t253 x6_1).f4)) = true := decide_eq_true c24
                                clear c24
                                by_cases c25 : ((rd_T33 t253 x6_1).f4) ≤ (wrap64 (((rd_T33 t253 x6_1).f4) + (((rd_T33 t253 x6_1).f1).size : Int)))
                                · rw [if_pos c25] at H
                                  have c25b0 := eq_true c25
                                  have c25b1 : decide (((rd_T33 t253 x6_1).f4) ≤ (wrap64 (((rd_T33 t253 x6_1).f4) + (((rd_T33 t253 x6_1).f1).size : Int)))) = true := decide_eq_true c25
                                  by_cases c26 : (wrap64 (((rd_T33 t253 x6_1).f4) + (((rd_T33 t253 x6_1).f1).size : Int))) ≤ (a0.size : Int)
                                  · rw [if_pos c26] at H
                                    have c26b0 := eq_true c26
                                    have c26b1 : decide ((wrap64 (((rd_T33 t253 x6_1).f4) + (((rd_T33 t253 x6_1).f1).size : Int))) ≤ (a0.size : Int)) = true := decide_eq_true c26
                                    have H' := Aside0.mk H
                                    clear H
                                    have p261 : 0 ≤ (x6_1 : Int) := of_decide_eq_true (by first | (with_reducible assumption) | assumption)
                                    have q261 : x6_1 < (t253.length : Int) := of_decide_eq_true (by first | (with_reducible assumption) | assumption)
                                    obtain ⟨ad261, A261_3, c261_3, e261, hx261_0, hx261_1, hx261_2, hx261_3, hx261_4, hl261_3, hi261_3⟩ := at_T33 (Kd.S_reads' HO_3.out).2.2 x6_1 p261 q261
                                    obtain rfl : ad258 = ad261 := (by injection e261)
                                    obtain ⟨ce261, hce261, hMe261, hcc261⟩ := Kd.S_get HO_3.out z33 x6_1 p261 (by first | exact q261 | exact of_decide_eq_true (by first | (with_reducible assumption) | assumption) | (have e_ := (Kd.S_reads' HO_3.out).1; omega))
                                    obtain ⟨ve261_3, rfl, ge261_3⟩ := k33_openM hMe261
                                    have hv261_3 := hcc261 3 _ rfl
                                    rw [add_field _ _ 3 (by omega)] at hv261_3
                                    replace hv261_3 := Option.some.inj (hv261_3.symm.trans hx261_3)
                                    rw [hv261_3] at ge261_3
                                    have HL261_3 := Aside0.mk (show Kd.R (Kd.int .u8) 5 _ _ _ _ ((rd_T33 t253 x6_1).f3) from ge261_3)
                                    clear hv261_3 ge261_3
                                    clear hcc261 hce261
                                    have HR261_3 := Aside0.mk hi261_3
                                    have HC261_3 := Aside0.mk hl261_3
                                    clear hi261_3 hl261_3
                                    replace p261 := eq_true p261
                                    replace q261 := eq_true q261
                                    go_wp2
                                    repeat (go_quiet (fail); try go_wp2)
                                    go_meet
                                    case rel => exact ⟨_, (((a0.extract (((rd_T33 t253 x6_1).f4) : Int).toNat ((wrap64 (((rd_T33 t253 x6_1).f4) + (((rd_T33 t253 x6_1).f1).size : Int))) : Int).toNat).toList != ((rd_T33 t253 x6_1).f1).toList)), (by first | rfl | (simp; done) | (simp [*]; done)), H', ⟨by have := HK1.out; have := HJ9.out; first | omega | exact Nat.le_refl _⟩, ⟨by (with_reducible repeat (first | apply Kd.S_alloc | apply Kd.S_drewN | apply Kd.S_drew)); exact HO_3.out⟩, ⟨by repeat (first | (with_reducible exact HR258_3.out) | (with_reducible refine Kd.C_alloc ?_ _) | (with_reducible refine Kd.C_drewN ?_ _) | (with_reducible refine Kd.C_drew ?_) | exact HR258_3.out)⟩, ⟨by repeat (first | (with_reducible exact HR260_3.out) | (with_reducible refine Kd.C_alloc ?_ _) | (with_reducible refine Kd.C_drewN ?_ _) | (with_reducible refine Kd.C_drew ?_) | exact HR260_3.out)⟩, ⟨by repeat (first | (with_reducible first | exact HB.out | apply below_alloc | apply pw_below_drewN | apply below_drew1) | exact HB.out)⟩⟩
                                  · rw [if_neg c26] at H
                                    exact absurd H (by simp)
                                · rw [if_neg c25] at H
                                  exact absurd H (by simp)
                              · rw [if_neg c24] at H
                                exact absurd H (by simp)
                          · rw [if_neg c22] at H
                            have c22b0 : decide (0 < (((rd_T33 t253 x6_1).f1).size : Int)) = false := decide_eq_false c22
                            have c22b1 : decide (0 < ((rd_T33 t253 x6_1).f1).size) = false := decide_eq_false (by omega)
                            clear c22
                            (first | rw [c22b0] | (simp only [i64_w, i32_w]; rw [c22b0]) | skip)
                            have H' := Aside0.mk H
                            clear H
                            go_wp2
                            repeat (go_quiet (fail); try go_wp2)
                            go_meet
                            case rel => exact ⟨_, (false), (by first | rfl | (simp; done) | (simp [*]; done)), H', ⟨by have := HK1.out; have := HJ9.out; first | omega | exact Nat.le_refl _⟩, ⟨by (with_reducible repeat (first | apply Kd.S_alloc | apply Kd.S_drewN | apply Kd.S_drew)); exact HO_3.out⟩, ⟨by repeat (first | (with_reducible exact HR258_3.out) | (with_reducible refine Kd.C_alloc ?_ _) | (with_reducible refine Kd.C_drewN ?_ _) | (with_reducible refine Kd.C_drew ?_) | exact HR258_3.out)⟩, ⟨by repeat (first | (with_reducible exact HR260_3.out) | (with_reducible refine Kd.C_alloc ?_ _) | (with_reducible refine Kd.C_drewN ?_ _) | (with_reducible refine Kd.C_drew ?_) | exact HR260_3.out)⟩, ⟨by repeat (first | (with_reducible first | exact HB.out | apply below_alloc | apply pw_below_drewN | apply below_drew1) | exact HB.out)⟩⟩
                        case rest =>
                          clear HC21
                          try clear c1
                          try clear c2
                          try clear p2
                          try clear q2
                          try clear hx2
                          try clear c3
                          try clear c5
                          try clear c5b0
                          try clear c5b1
                          try clear c6
                          try clear p6
                          try clear c8
                          try clear c8b0
                          try clear c9
                          try clear c9b0
                          try clear c12
                          try clear c12b0
                          try clear c13
                          try clear c13b0
                          try clear c14
                          try clear c14b0
                          try clear c16
                          try clear c16b0
                          try clear c17
                          try clear c17b0
                          try clear c18
                          try clear c19
                          try clear c19b0
                          try clear c20
                          try clear c20b0
                          try clear c22
                          try clear c22b0
                          try clear c22b1
                          try clear c23
                          try clear c23b0
                          try clear c24
                          try clear c24b0
                          try clear c24b1
                          try clear c25
                          try clear c25b0
                          try clear c25b1
                          try clear p25
                          try clear q25
                          try clear hx25
                          try clear c26
                          try clear c26b0
                          try clear c26b1
                          try clear p26
                          try clear q26
                          try clear hx26
                          try clear hx258_0
                          try clear hx258_1
                          try clear hx258_2
                          try clear hx258_3
                          try clear hx258_4
                          try clear hx259_0
                          try clear hx259_1
                          try clear hx259_2
                          try clear hx259_3
                          try clear hx259_4
                          try clear hx260_0
                          try clear hx260_1
                          try clear hx260_2
                          try clear hx260_3
                          try clear hx260_4
                          try clear hx261_0
                          try clear hx261_1
                          try clear hx261_2
                          try clear hx261_3
                          try clear hx261_4
                          try clear p2
                          try clear p258
                          try clear p259
                          try clear p260
                          try clear p261
                          try clear p6
                          try clear q2
                          try clear q258
                          try clear q259
                          try clear q260
                          try clear q261
                          obtain ⟨kq, x89_20, rfl, HA, HJ20, HO_3, HR258_3, HR260_3, HB⟩ := hcut
                          cases kq with
                          | zero => exact absurd HA.out (by simp [rookerylaw15_LexPlaces.j2])
                          | succ kj20 =>
                            have H := HA.out
                            clear HA
                            simp only [rookerylaw15_LexPlaces.j2] at H
                            by_cases c27 : x89_20 = true
                            · subst c27
                              have H1 : (some false) = some r := by rw [if_pos rfl] at H; exact H
                              clear H
                              have H := H1
                              clear H1
                              obtain rfl := Option.some.inj H
                              go_wp2
                              repeat (go_quiet (fail); try go_wp2)
                              go_ret
                              exact ⟨by first | rfl | (simp [errW_none, errW_some] <;> rfl) | (simp [*, errW_none, errW_some] <;> rfl), by repeat (first | (with_reducible first | exact HB.out | apply below_alloc | apply pw_below_drewN | apply below_drew1) | exact HB.out)⟩
                            · replace c27 := Bool.eq_false_iff.mpr c27
                              subst c27
                              have H1 : (if 0 ≤ x6_1 then (if x6_1 < (t253.length : Int) then (if ((rd_T33 t253 x6_1).f0) = 4 then (if 0 ≤ ((rd_T33 t253 x6_1).f4) then (if ((rd_T33 t253 x6_1).f4) < (a0.size : Int) then (if (bt a0 ((rd_T33 t253 x6_1).f4)) = 34 then (rookerylaw15_LexPlaces.l0 kj20 a0 t253 (wrap64 (x6_1 + 1))) else (some false)) else (none)) else (none)) else (rookerylaw15_LexPlaces.l0 kj20 a0 t253 (wrap64 (x6_1 + 1)))) else (none)) else (none)) = some r := by rw [if_neg (show ¬ (false = true) by decide)] at H; exact H
                              clear H
                              have H := H1
                              clear H1
                              by_cases c28 : 0 ≤ x6_1
                              · rw [if_pos c28] at H
                                have c28b0 : decide (0 ≤ x6_1) = true := decide_eq_true c28
                                clear c28
                                by_cases c29 : x6_1 < (t253.length : Int)
                                · rw [if_pos c29] at H
                                  have c29b0 : decide (x6_1 < (t253.length : Int)) = true := decide_eq_true c29
                                  clear c29
                                  by_cases c30 : ((rd_T33 t253 x6_1).f0) = 4
                                  · rw [if_pos c30] at H
                                    have c30b0 : (((rd_T33 t253 x6_1).f0) == 4) = true := beq_iff_eq.mpr c30
                                    have c30b1 : (((rd_T33 t253 x6_1).f0) != 4) = false := bne_eq_false_iff_eq.mpr c30
                                    clear c30
                                    by_cases c31 : 0 ≤ ((rd_T33 t253 x6_1).f4)
                                    · rw [if_pos c31] at H
                                      have c31b0 : decide (0 ≤ ((rd_T33 t253 x6_1).f4)) = true := decide_eq_true c31
                                      clear c31
                                      by_cases c32 : ((rd_T33 t253 x6_1).f4) < (a0.size : Int)
                                      · rw [if_pos c32] at H
                                        have c32b0 : decide (((rd_T33 t253 x6_1).f4) < (a0.size : Int)) = true := decide_eq_true c32
                                        clear c32
                                        by_cases c34 : (bt a0 ((rd_T33 t253 x6_1).f4)) = 34
                                        · rw [if_pos c34] at H
                                          have c34b0 : ((bt a0 ((rd_T33 t253 x6_1).f4)) == 34) = true := beq_iff_eq.mpr c34
                                          have c34b1 : ((bt a0 ((rd_T33 t253 x6_1).f4)) != 34) = false := bne_eq_false_iff_eq.mpr c34
                                          clear c34
                                          have H' := Aside0.mk H
                                          clear H
                                          have p262 : 0 ≤ (x6_1 : Int) := of_decide_eq_true (by first | (with_reducible assumption) | assumption)
                                          have q262 : x6_1 < (t253.length : Int) := of_decide_eq_true (by first | (with_reducible assumption) | assumption)
                                          obtain ⟨ad262, A262_3, c262_3, e262, hx262_0, hx262_1, hx262_2, hx262_3, hx262_4, hl262_3, hi262_3⟩ := at_T33 (Kd.S_reads' HO_3.out).2.2 x6_1 p262 q262
                                          obtain rfl : ad258 = ad262 := (by injection e262)
                                          obtain ⟨ce262, hce262, hMe262, hcc262⟩ := Kd.S_get HO_3.out z33 x6_1 p262 (by first | exact q262 | exact of_decide_eq_true (by first | (with_reducible assumption) | assumption) | (have e_ := (Kd.S_reads' HO_3.out).1; omega))
                                          obtain ⟨ve262_3, rfl, ge262_3⟩ := k33_openM hMe262
                                          have hv262_3 := hcc262 3 _ rfl
                                          rw [add_field _ _ 3 (by omega)] at hv262_3
                                          replace hv262_3 := Option.some.inj (hv262_3.symm.trans hx262_3)
                                          rw [hv262_3] at ge262_3
                                          have HL262_3 := Aside0.mk (show Kd.R (Kd.int .u8) 5 _ _ _ _ ((rd_T33 t253 x6_1).f3) from ge262_3)
                                          clear hv262_3 ge262_3
                                          clear hcc262 hce262
                                          have HR262_3 := Aside0.mk hi262_3
                                          have HC262_3 := Aside0.mk hl262_3
                                          clear hi262_3 hl262_3
                                          replace p262 := eq_true p262
                                          replace q262 := eq_true q262
                                          have p33 : 0 ≤ (((rd_T33 t253 x6_1).f4) : Int) := of_decide_eq_true (by first | (with_reducible assumption) | assumption)
                                          have q33 : ((rd_T33 t253 x6_1).f4) < (a0.size : Int) := of_decide_eq_true (by first | (with_reducible assumption) | assumption)
                                          have hx33 := bt_at a0 ((rd_T33 t253 x6_1).f4)
                                          replace p33 := eq_true p33
                                          replace q33 := eq_true q33
                                          go_wp2
                                          repeat (go_quiet (fail); try go_wp2)
                                          go_roundg kj20
                                          case measure => have := HK1.out; have := HJ9.out; have := HJ20.out; omega
                                          case rel => exact ⟨(wrap64 (x6_1 + 1)), (by first | rfl | (simp; done) | (simp [*]; done)), H', ⟨by have := HK1.out; have := HJ9.out; have := HJ20.out; omega⟩, ⟨by (with_reducible repeat (first | apply Kd.S_alloc | apply Kd.S_drewN | apply Kd.S_drew)); exact HO_3.out⟩, ⟨by repeat (first | (with_reducible first | exact HB.out | apply below_alloc | apply pw_below_drewN | apply below_drew1) | exact HB.out)⟩⟩
                                        · rw [if_neg c34] at H
                                          have c34b0 : ((bt a0 ((rd_T33 t253 x6_1).f4)) == 34) = false := beq_eq_false_iff_ne.mpr c34
                                          have c34b1 : ((bt a0 ((rd_T33 t253 x6_1).f4)) != 34) = true := bne_iff_ne.mpr c34
                                          obtain rfl := Option.some.inj H
                                          have p262 : 0 ≤ (x6_1 : Int) := of_decide_eq_true (by first | (with_reducible assumption) | assumption)
                                          have q262 : x6_1 < (t253.length : Int) := of_decide_eq_true (by first | (with_reducible assumption) | assumption)
                                          obtain ⟨ad262, A262_3, c262_3, e262, hx262_0, hx262_1, hx262_2, hx262_3, hx262_4, hl262_3, hi262_3⟩ := at_T33 (Kd.S_reads' HO_3.out).2.2 x6_1 p262 q262
                                          obtain rfl : ad258 = ad262 := (by injection e262)
                                          obtain ⟨ce262, hce262, hMe262, hcc262⟩ := Kd.S_get HO_3.out z33 x6_1 p262 (by first | exact q262 | exact of_decide_eq_true (by first | (with_reducible assumption) | assumption) | (have e_ := (Kd.S_reads' HO_3.out).1; omega))
                                          obtain ⟨ve262_3, rfl, ge262_3⟩ := k33_openM hMe262
                                          have hv262_3 := hcc262 3 _ rfl
                                          rw [add_field _ _ 3 (by omega)] at hv262_3
                                          replace hv262_3 := Option.some.inj (hv262_3.symm.trans hx262_3)
                                          rw [hv262_3] at ge262_3
                                          have HL262_3 := Aside0.mk (show Kd.R (Kd.int .u8) 5 _ _ _ _ ((rd_T33 t253 x6_1).f3) from ge262_3)
                                          clear hv262_3 ge262_3
                                          clear hcc262 hce262
                                          have HR262_3 := Aside0.mk hi262_3
                                          have HC262_3 := Aside0.mk hl262_3
                                          clear hi262_3 hl262_3
                                          replace p262 := eq_true p262
                                          replace q262 := eq_true q262
                                          have p33 : 0 ≤ (((rd_T33 t253 x6_1).f4) : Int) := of_decide_eq_true (by first | (with_reducible assumption) | assumption)
                                          have q33 : ((rd_T33 t253 x6_1).f4) < (a0.size : Int) := of_decide_eq_true (by first | (with_reducible assumption) | assumption)
                                          have hx33 := bt_at a0 ((rd_T33 t253 x6_1).f4)
                                          replace p33 := eq_true p33
                                          replace q33 := eq_true q33
                                          go_wp2
                                          repeat (go_quiet (fail); try go_wp2)
                                          go_ret
                                          exact ⟨by first | rfl | (simp [errW_none, errW_some] <;> rfl) | (simp [*, errW_none, errW_some] <;> rfl), by repeat (first | (with_reducible first | exact HB.out | apply below_alloc | apply pw_below_drewN | apply below_drew1) | exact HB.out)⟩
                                      · rw [if_neg c32] at H
                                        exact absurd H (by simp)
                                    · rw [if_neg c31] at H
                                      exact absurd H (by simp)
                                  · rw [if_neg c30] at H
                                    have c30b0 : (((rd_T33 t253 x6_1).f0) == 4) = false := beq_eq_false_iff_ne.mpr c30
                                    have c30b1 : (((rd_T33 t253 x6_1).f0) != 4) = true := bne_iff_ne.mpr c30
                                    have H' := Aside0.mk H
                                    clear H
                                    have p262 : 0 ≤ (x6_1 : Int) := of_decide_eq_true (by first | (with_reducible assumption) | assumption)
                                    have q262 : x6_1 < (t253.length : Int) := of_decide_eq_true (by first | (with_reducible assumption) | assumption)
                                    obtain ⟨ad262, A262_3, c262_3, e262, hx262_0, hx262_1, hx262_2, hx262_3, hx262_4, hl262_3, hi262_3⟩ := at_T33 (Kd.S_reads' HO_3.out).2.2 x6_1 p262 q262
                                    obtain rfl : ad258 = ad262 := (by injection e262)
                                    obtain ⟨ce262, hce262, hMe262, hcc262⟩ := Kd.S_get HO_3.out z33 x6_1 p262 (by first | exact q262 | exact of_decide_eq_true (by first | (with_reducible assumption) | assumption) | (have e_ := (Kd.S_reads' HO_3.out).1; omega))
                                    obtain ⟨ve262_3, rfl, ge262_3⟩ := k33_openM hMe262
                                    have hv262_3 := hcc262 3 _ rfl
                                    rw [add_field _ _ 3 (by omega)] at hv262_3
                                    replace hv262_3 := Option.some.inj (hv262_3.symm.trans hx262_3)
                                    rw [hv262_3] at ge262_3
                                    have HL262_3 := Aside0.mk (show Kd.R (Kd.int .u8) 5 _ _ _ _ ((rd_T33 t253 x6_1).f3) from ge262_3)
                                    clear hv262_3 ge262_3
                                    clear hcc262 hce262
                                    have HR262_3 := Aside0.mk hi262_3
                                    have HC262_3 := Aside0.mk hl262_3
                                    clear hi262_3 hl262_3
                                    replace p262 := eq_true p262
                                    replace q262 := eq_true q262
                                    go_wp2
                                    repeat (go_quiet (fail); try go_wp2)
                                    go_roundg kj20
                                    case measure => have := HK1.out; have := HJ9.out; have := HJ20.out; omega
                                    case rel => exact ⟨(wrap64 (x6_1 + 1)), (by first | rfl | (simp; done) | (simp [*]; done)), H', ⟨by have := HK1.out; have := HJ9.out; have := HJ20.out; omega⟩, ⟨by (with_reducible repeat (first | apply Kd.S_alloc | apply Kd.S_drewN | apply Kd.S_drew)); exact HO_3.out⟩, ⟨by repeat (first | (with_reducible first | exact HB.out | apply below_alloc | apply pw_below_drewN | apply below_drew1) | exact HB.out)⟩⟩
                                · rw [if_neg c29] at H
                                  exact absurd H (by simp)
                              · rw [if_neg c28] at H
                                exact absurd H (by simp)
                      · rw [if_neg c20] at H
                        exact absurd H (by simp)
                    · rw [if_neg c19] at H
                      exact absurd H (by simp)
            · rw [if_neg c9] at H
              exact absurd H (by simp)
          · rw [if_neg c8] at H
            have c8b0 : decide (x6_1 < (t253.length : Int)) = false := decide_eq_false c8
            clear c8
            obtain rfl := Option.some.inj H
            obtain ⟨Ao35, co35, eo35⟩ := Kd.S_slice HO_3.out
            subst eo35
            go_wp2
            repeat (go_quiet (fail); try go_wp2)
            go_ret
            exact ⟨by first | rfl | (simp [errW_none, errW_some] <;> rfl) | (simp [*, errW_none, errW_some] <;> rfl), by repeat (first | (with_reducible first | exact HB.out | apply below_alloc | apply pw_below_drewN | apply below_drew1) | exact HB.out)⟩
    · rw [if_neg c5] at H
      have c5b0 : (t255 == 0) = false := beq_eq_false_iff_ne.mpr c5
      have c5b1 : (t255 != 0) = true := bne_iff_ne.mpr c5
      by_cases c36 : t254 ≥ 0
      · rw [if_pos c36] at H
        have c36b0 : decide (0 ≤ t254) = true := decide_eq_true c36
        clear c36
        obtain rfl := Option.some.inj H
        go_enter Tryd.func6, Tryd.ntmps6
        go_wp2_with (first | (go_at_call 13; (with_reducible refine (rookerylaw15_alive.calls k  true _ ?side1 A2.out).mono ?_); (case side1 => first | exact hG | exact hG.drewN _ | exact hG.drew | exact hG.below (by repeat (first | (with_reducible first | exact HB.out | apply below_alloc | apply pw_below_drewN | apply below_drew1) | exact HB.out)) | (refine hG.below ?_; (repeat (first | (with_reducible exact Below.refl _ _) | (with_reducible refine pw_below_drewN ?_ _) | (with_reducible refine below_drew ?_) | (with_reducible refine below_alloc ?_ _))))); rintro e w37 ⟨rfl, hb⟩; have n0_ := Aside0.mk (below_step (by repeat (first | (with_reducible first | exact HB.out | apply below_alloc | apply pw_below_drewN | apply below_drew1) | exact HB.out)) hb); clear HB; have HB := n0_; clear n0_; (try clear hb); (try clear hb2); (try clear hk); (try clear hi)) | (go_at_call 14; (with_reducible refine (lex_Scan.calls k a0 t253 t254 t255 _ ?side1 A4.out).mono ?_); (case side1 => first | exact hG | exact hG.drewN _ | exact hG.drew | exact hG.below (by repeat (first | (with_reducible first | exact HB.out | apply below_alloc | apply pw_below_drewN | apply below_drew1) | exact HB.out)) | (refine hG.below ?_; (repeat (first | (with_reducible exact Below.refl _ _) | (with_reducible refine pw_below_drewN ?_ _) | (with_reducible refine below_drew ?_) | (with_reducible refine below_alloc ?_ _))))); rintro e w38 ⟨v256, rfl, ho0, hb⟩; have n0_ := Aside0.mk (Kd.S_lower ho0 (below_size (by repeat (first | (with_reducible first | exact HB.out | apply below_alloc | apply pw_below_drewN | apply below_drew1) | exact HB.out)))); have n1_ := Aside0.mk (below_step (by repeat (first | (with_reducible first | exact HB.out | apply below_alloc | apply pw_below_drewN | apply below_drew1) | exact HB.out)) hb); clear HB; have HO257 := n0_; have HB := n1_; clear n0_ n1_; (try clear hb); (try clear hb2); (try clear hk); (try clear hi); (try clear ho0)))
        repeat (go_quiet (first | (go_at_call 13; (with_reducible refine (rookerylaw15_alive.calls k  true _ ?side1 A2.out).mono ?_); (case side1 => first | exact hG | exact hG.drewN _ | exact hG.drew | exact hG.below (by repeat (first | (with_reducible first | exact HB.out | apply below_alloc | apply pw_below_drewN | apply below_drew1) | exact HB.out)) | (refine hG.below ?_; (repeat (first | (with_reducible exact Below.refl _ _) | (with_reducible refine pw_below_drewN ?_ _) | (with_reducible refine below_drew ?_) | (with_reducible refine below_alloc ?_ _))))); rintro e w37 ⟨rfl, hb⟩; have n0_ := Aside0.mk (below_step (by repeat (first | (with_reducible first | exact HB.out | apply below_alloc | apply pw_below_drewN | apply below_drew1) | exact HB.out)) hb); clear HB; have HB := n0_; clear n0_; (try clear hb); (try clear hb2); (try clear hk); (try clear hi)) | (go_at_call 14; (with_reducible refine (lex_Scan.calls k a0 t253 t254 t255 _ ?side1 A4.out).mono ?_); (case side1 => first | exact hG | exact hG.drewN _ | exact hG.drew | exact hG.below (by repeat (first | (with_reducible first | exact HB.out | apply below_alloc | apply pw_below_drewN | apply below_drew1) | exact HB.out)) | (refine hG.below ?_; (repeat (first | (with_reducible exact Below.refl _ _) | (with_reducible refine pw_below_drewN ?_ _) | (with_reducible refine below_drew ?_) | (with_reducible refine below_alloc ?_ _))))); rintro e w38 ⟨v256, rfl, ho0, hb⟩; have n0_ := Aside0.mk (Kd.S_lower ho0 (below_size (by repeat (first | (with_reducible first | exact HB.out | apply below_alloc | apply pw_below_drewN | apply below_drew1) | exact HB.out)))); have n1_ := Aside0.mk (below_step (by repeat (first | (with_reducible first | exact HB.out | apply below_alloc | apply pw_below_drewN | apply below_drew1) | exact HB.out)) hb); clear HB; have HO257 := n0_; have HB := n1_; clear n0_ n1_; (try clear hb); (try clear hb2); (try clear hk); (try clear hi); (try clear ho0))); try go_wp2_with (first | (go_at_call 13; (with_reducible refine (rookerylaw15_alive.calls k  true _ ?side1 A2.out).mono ?_); (case side1 => first | exact hG | exact hG.drewN _ | exact hG.drew | exact hG.below (by repeat (first | (with_reducible first | exact HB.out | apply below_alloc | apply pw_below_drewN | apply below_drew1) | exact HB.out)) | (refine hG.below ?_; (repeat (first | (with_reducible exact Below.refl _ _) | (with_reducible refine pw_below_drewN ?_ _) | (with_reducible refine below_drew ?_) | (with_reducible refine below_alloc ?_ _))))); rintro e w37 ⟨rfl, hb⟩; have n0_ := Aside0.mk (below_step (by repeat (first | (with_reducible first | exact HB.out | apply below_alloc | apply pw_below_drewN | apply below_drew1) | exact HB.out)) hb); clear HB; have HB := n0_; clear n0_; (try clear hb); (try clear hb2); (try clear hk); (try clear hi)) | (go_at_call 14; (with_reducible refine (lex_Scan.calls k a0 t253 t254 t255 _ ?side1 A4.out).mono ?_); (case side1 => first | exact hG | exact hG.drewN _ | exact hG.drew | exact hG.below (by repeat (first | (with_reducible first | exact HB.out | apply below_alloc | apply pw_below_drewN | apply below_drew1) | exact HB.out)) | (refine hG.below ?_; (repeat (first | (with_reducible exact Below.refl _ _) | (with_reducible refine pw_below_drewN ?_ _) | (with_reducible refine below_drew ?_) | (with_reducible refine below_alloc ?_ _))))); rintro e w38 ⟨v256, rfl, ho0, hb⟩; have n0_ := Aside0.mk (Kd.S_lower ho0 (below_size (by repeat (first | (with_reducible first | exact HB.out | apply below_alloc | apply pw_below_drewN | apply below_drew1) | exact HB.out)))); have n1_ := Aside0.mk (below_step (by repeat (first | (with_reducible first | exact HB.out | apply below_alloc | apply pw_below_drewN | apply below_drew1) | exact HB.out)) hb); clear HB; have HO257 := n0_; have HB := n1_; clear n0_ n1_; (try clear hb); (try clear hb2); (try clear hk); (try clear hi); (try clear ho0))))
        go_ret
        exact ⟨by first | rfl | (simp [errW_none, errW_some] <;> rfl) | (simp [*, errW_none, errW_some] <;> rfl), by repeat (first | (with_reducible first | exact HB.out | apply below_alloc | apply pw_below_drewN | apply below_drew1) | exact HB.out)⟩
      · rw [if_neg c36] at H
        have c36b0 : decide (0 ≤ t254) = false := decide_eq_false c36
        clear c36
        obtain rfl := Option.some.inj H
        go_enter Tryd.func6, Tryd.ntmps6
        go_wp2_with (first | (go_at_call 13; (with_reducible refine (rookerylaw15_alive.calls k  true _ ?side1 A2.out).mono ?_); (case side1 => first | exact hG | exact hG.drewN _ | exact hG.drew | exact hG.below (by repeat (first | (with_reducible first | exact HB.out | apply below_alloc | apply pw_below_drewN | apply below_drew1) | exact HB.out)) | (refine hG.below ?_; (repeat (first | (with_reducible exact Below.refl _ _) | (with_reducible refine pw_below_drewN ?_ _) | (with_reducible refine below_drew ?_) | (with_reducible refine below_alloc ?_ _))))); rintro e w39 ⟨rfl, hb⟩; have n0_ := Aside0.mk (below_step (by repeat (first | (with_reducible first | exact HB.out | apply below_alloc | apply pw_below_drewN | apply below_drew1) | exact HB.out)) hb); clear HB; have HB := n0_; clear n0_; (try clear hb); (try clear hb2); (try clear hk); (try clear hi)) | (go_at_call 14; (with_reducible refine (lex_Scan.calls k a0 t253 t254 t255 _ ?side1 A4.out).mono ?_); (case side1 => first | exact hG | exact hG.drewN _ | exact hG.drew | exact hG.below (by repeat (first | (with_reducible first | exact HB.out | apply below_alloc | apply pw_below_drewN | apply below_drew1) | exact HB.out)) | (refine hG.below ?_; (repeat (first | (with_reducible exact Below.refl _ _) | (with_reducible refine pw_below_drewN ?_ _) | (with_reducible refine below_drew ?_) | (with_reducible refine below_alloc ?_ _))))); rintro e w40 ⟨v256, rfl, ho0, hb⟩; have n0_ := Aside0.mk (Kd.S_lower ho0 (below_size (by repeat (first | (with_reducible first | exact HB.out | apply below_alloc | apply pw_below_drewN | apply below_drew1) | exact HB.out)))); have n1_ := Aside0.mk (below_step (by repeat (first | (with_reducible first | exact HB.out | apply below_alloc | apply pw_below_drewN | apply below_drew1) | exact HB.out)) hb); clear HB; have HO257 := n0_; have HB := n1_; clear n0_ n1_; (try clear hb); (try clear hb2); (try clear hk); (try clear hi); (try clear ho0)))
        repeat (go_quiet (first | (go_at_call 13; (with_reducible refine (rookerylaw15_alive.calls k  true _ ?side1 A2.out).mono ?_); (case side1 => first | exact hG | exact hG.drewN _ | exact hG.drew | exact hG.below (by repeat (first | (with_reducible first | exact HB.out | apply below_alloc | apply pw_below_drewN | apply below_drew1) | exact HB.out)) | (refine hG.below ?_; (repeat (first | (with_reducible exact Below.refl _ _) | (with_reducible refine pw_below_drewN ?_ _) | (with_reducible refine below_drew ?_) | (with_reducible refine below_alloc ?_ _))))); rintro e w39 ⟨rfl, hb⟩; have n0_ := Aside0.mk (below_step (by repeat (first | (with_reducible first | exact HB.out | apply below_alloc | apply pw_below_drewN | apply below_drew1) | exact HB.out)) hb); clear HB; have HB := n0_; clear n0_; (try clear hb); (try clear hb2); (try clear hk); (try clear hi)) | (go_at_call 14; (with_reducible refine (lex_Scan.calls k a0 t253 t254 t255 _ ?side1 A4.out).mono ?_); (case side1 => first | exact hG | exact hG.drewN _ | exact hG.drew | exact hG.below (by repeat (first | (with_reducible first | exact HB.out | apply below_alloc | apply pw_below_drewN | apply below_drew1) | exact HB.out)) | (refine hG.below ?_; (repeat (first | (with_reducible exact Below.refl _ _) | (with_reducible refine pw_below_drewN ?_ _) | (with_reducible refine below_drew ?_) | (with_reducible refine below_alloc ?_ _))))); rintro e w40 ⟨v256, rfl, ho0, hb⟩; have n0_ := Aside0.mk (Kd.S_lower ho0 (below_size (by repeat (first | (with_reducible first | exact HB.out | apply below_alloc | apply pw_below_drewN | apply below_drew1) | exact HB.out)))); have n1_ := Aside0.mk (below_step (by repeat (first | (with_reducible first | exact HB.out | apply below_alloc | apply pw_below_drewN | apply below_drew1) | exact HB.out)) hb); clear HB; have HO257 := n0_; have HB := n1_; clear n0_ n1_; (try clear hb); (try clear hb2); (try clear hk); (try clear hi); (try clear ho0))); try go_wp2_with (first | (go_at_call 13; (with_reducible refine (rookerylaw15_alive.calls k  true _ ?side1 A2.out).mono ?_); (case side1 => first | exact hG | exact hG.drewN _ | exact hG.drew | exact hG.below (by repeat (first | (with_reducible first | exact HB.out | apply below_alloc | apply pw_below_drewN | apply below_drew1) | exact HB.out)) | (refine hG.below ?_; (repeat (first | (with_reducible exact Below.refl _ _) | (with_reducible refine pw_below_drewN ?_ _) | (with_reducible refine below_drew ?_) | (with_reducible refine below_alloc ?_ _))))); rintro e w39 ⟨rfl, hb⟩; have n0_ := Aside0.mk (below_step (by repeat (first | (with_reducible first | exact HB.out | apply below_alloc | apply pw_below_drewN | apply below_drew1) | exact HB.out)) hb); clear HB; have HB := n0_; clear n0_; (try clear hb); (try clear hb2); (try clear hk); (try clear hi)) | (go_at_call 14; (with_reducible refine (lex_Scan.calls k a0 t253 t254 t255 _ ?side1 A4.out).mono ?_); (case side1 => first | exact hG | exact hG.drewN _ | exact hG.drew | exact hG.below (by repeat (first | (with_reducible first | exact HB.out | apply below_alloc | apply pw_below_drewN | apply below_drew1) | exact HB.out)) | (refine hG.below ?_; (repeat (first | (with_reducible exact Below.refl _ _) | (with_reducible refine pw_below_drewN ?_ _) | (with_reducible refine below_drew ?_) | (with_reducible refine below_alloc ?_ _))))); rintro e w40 ⟨v256, rfl, ho0, hb⟩; have n0_ := Aside0.mk (Kd.S_lower ho0 (below_size (by repeat (first | (with_reducible first | exact HB.out | apply below_alloc | apply pw_below_drewN | apply below_drew1) | exact HB.out)))); have n1_ := Aside0.mk (below_step (by repeat (first | (with_reducible first | exact HB.out | apply below_alloc | apply pw_below_drewN | apply below_drew1) | exact HB.out)) hb); clear HB; have HO257 := n0_; have HB := n1_; clear n0_ n1_; (try clear hb); (try clear hb2); (try clear hk); (try clear hi); (try clear ho0))))
        go_ret
        exact ⟨by first | rfl | (simp [errW_none, errW_some] <;> rfl) | (simp [*, errW_none, errW_some] <;> rfl), by repeat (first | (with_reducible first | exact HB.out | apply below_alloc | apply pw_below_drewN | apply below_drew1) | exact HB.out)⟩
  · replace c3 := Bool.eq_false_iff.mpr c3
    subst c3
    have H1 : (some false) = some r := by rw [if_neg (show ¬ (false = true) by decide)] at H; exact H
    clear H
    have H := H1
    clear H1
    obtain rfl := Option.some.inj H
    go_enter Tryd.func6, Tryd.ntmps6
    go_wp2_with (first | (go_at_call 13; (with_reducible refine (rookerylaw15_alive.calls k  false _ ?side1 A2.out).mono ?_); (case side1 => first | exact hG | exact hG.drewN _ | exact hG.drew | exact hG.below (by repeat (first | (with_reducible first | exact HB.out | apply below_alloc | apply pw_below_drewN | apply below_drew1) | exact HB.out)) | (refine hG.below ?_; (repeat (first | (with_reducible exact Below.refl _ _) | (with_reducible refine pw_below_drewN ?_ _) | (with_reducible refine below_drew ?_) | (with_reducible refine below_alloc ?_ _))))); rintro e w41 ⟨rfl, hb⟩; have n0_ := Aside0.mk (below_step (by repeat (first | (with_reducible first | exact HB.out | apply below_alloc | apply pw_below_drewN | apply below_drew1) | exact HB.out)) hb); clear HB; have HB := n0_; clear n0_; (try clear hb); (try clear hb2); (try clear hk); (try clear hi)))
    repeat (go_quiet (first | (go_at_call 13; (with_reducible refine (rookerylaw15_alive.calls k  false _ ?side1 A2.out).mono ?_); (case side1 => first | exact hG | exact hG.drewN _ | exact hG.drew | exact hG.below (by repeat (first | (with_reducible first | exact HB.out | apply below_alloc | apply pw_below_drewN | apply below_drew1) | exact HB.out)) | (refine hG.below ?_; (repeat (first | (with_reducible exact Below.refl _ _) | (with_reducible refine pw_below_drewN ?_ _) | (with_reducible refine below_drew ?_) | (with_reducible refine below_alloc ?_ _))))); rintro e w41 ⟨rfl, hb⟩; have n0_ := Aside0.mk (below_step (by repeat (first | (with_reducible first | exact HB.out | apply below_alloc | apply pw_below_drewN | apply below_drew1) | exact HB.out)) hb); clear HB; have HB := n0_; clear n0_; (try clear hb); (try clear hb2); (try clear hk); (try clear hi))); try go_wp2_with (first | (go_at_call 13; (with_reducible refine (rookerylaw15_alive.calls k  false _ ?side1 A2.out).mono ?_); (case side1 => first | exact hG | exact hG.drewN _ | exact hG.drew | exact hG.below (by repeat (first | (with_reducible first | exact HB.out | apply below_alloc | apply pw_below_drewN | apply below_drew1) | exact HB.out)) | (refine hG.below ?_; (repeat (first | (with_reducible exact Below.refl _ _) | (with_reducible refine pw_below_drewN ?_ _) | (with_reducible refine below_drew ?_) | (with_reducible refine below_alloc ?_ _))))); rintro e w41 ⟨rfl, hb⟩; have n0_ := Aside0.mk (below_step (by repeat (first | (with_reducible first | exact HB.out | apply below_alloc | apply pw_below_drewN | apply below_drew1) | exact HB.out)) hb); clear HB; have HB := n0_; clear n0_; (try clear hb); (try clear hb2); (try clear hk); (try clear hi))))
    go_ret
    exact ⟨by first | rfl | (simp [errW_none, errW_some] <;> rfl) | (simp [*, errW_none, errW_some] <;> rfl), by repeat (first | (with_reducible first | exact HB.out | apply below_alloc | apply pw_below_drewN | apply below_drew1) | exact HB.out)⟩

/-- THE ONE PURE STATEMENT of rookerylaw15_LexPlaces: yours. -/
def rookerylaw15_LexPlaces.Pure : Prop := ∀ (a0 : ByteArray), a0.size ≤ 140737488351232 → ∃ k, rookerylaw15_LexPlaces.f k a0 = some true
theorem rookerylaw15_LexPlaces.walk (P : rookerylaw15_LexPlaces.Pure) (a0 : ByteArray) (w : World) (w0 : a0.size ≤ 140737488351232) (hG : Glob w) :
    Calls Tryd.prog 6 #[.string a0] w fun e w' => e = .returned (.bool true) ∧ Below w.heap.size w w' := by
  obtain ⟨k, h⟩ := P a0 w0
  refine (rookerylaw15_LexPlaces.calls k a0 true w hG h).mono ?_
  rintro e w' ⟨rfl, hd⟩
  exact ⟨rfl, hd⟩

-- NOT PRINTED: function 7 (rookerylaw15_LexJoins)

end Go.Proofs.YtgkbmdlelcbmhaaDoor.PLex
