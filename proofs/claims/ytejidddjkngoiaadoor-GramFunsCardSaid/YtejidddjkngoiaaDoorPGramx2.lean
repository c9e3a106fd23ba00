-- Written by a turned copy of the kit's printer (wip/patch_print.py), in this project; not trusted: Lean checks it.
import Derived.Test.YtejidddjkngoiaaDoorPGramx0
import Derived.Test.YtejidddjkngoiaaDoorPGramx1
namespace Go.Proofs.YtejidddjkngoiaaDoor.PGram
open Go.RowKit Go.Proofs.YtejidddjkngoiaaDoorW.PrintWords Go.Proofs.YtejidddjkngoiaaDoorW.PrintLast Go.Proofs.YtejidddjkngoiaaDoorW.PrintMore
attribute [local go_sem] max2_int min2_int max_two min_two max_three min_three max_four min_four   -- for this text's walks alone
set_option linter.unusedVariables false
set_option linter.unusedSimpArgs false

/-! ### lex_scanner_quoted: function 30 -/
mutual
def lex_scanner_quoted.l0 : Nat → List Int → ByteArray → Int → Option (List Int × Bool × ByteArray × Int)
 | 0, _, _, _ => none
 | k + 1, x4, x1000, x1001 => (lex_scanner_here.f x1000 x1001).bind fun bt109 => (if bt109.1 < 32 then (lex_scanner_quoted.j1 k x4 bt109.1 true bt109.2.1 bt109.2.2) else (lex_scanner_quoted.j1 k x4 bt109.1 (decide (bt109.1 > 126)) bt109.2.1 bt109.2.2))
def lex_scanner_quoted.j1 : Nat → List Int → Int → Bool → ByteArray → Int → Option (List Int × Bool × ByteArray × Int)
 | 0, _, _, _, _, _ => none
 | k + 1, x4, x5, x29, x1000, x1001 => if x29 = true then (some (([] : List Int), false, x1000, x1001)) else (if x5 = 34 then (some (x4, true, x1000, wrap64 (x1001 + 1))) else (if x5 = 92 then ((lex_scanner_escape.f k x1000 (wrap64 (x1001 + 1))).bind fun bt112 => (if bt112.2.1 = true then (if x4.length < 140737488355328 then (lex_scanner_quoted.l0 k (x4 ++ [bt112.1]) bt112.2.2.1 bt112.2.2.2) else (none)) else (some (([] : List Int), false, bt112.2.2.1, bt112.2.2.2)))) else (if x4.length < 140737488355328 then (lex_scanner_quoted.l0 k (x4 ++ [x5]) x1000 (wrap64 (x1001 + 1))) else (none))))
end
def lex_scanner_quoted.f (k : Nat) (s0_0 : ByteArray) (s0_1 : Int) : Option (List Int × Bool × ByteArray × Int) := lex_scanner_quoted.l0 k (([] : List Int)) s0_0 (wrap64 (s0_1 + 1))
theorem lex_scanner_quoted.mono_l : ∀ k, (∀ y0 y1 y2, LeO (lex_scanner_quoted.l0 k y0 y1 y2) (lex_scanner_quoted.l0 (k + 1) y0 y1 y2)) ∧ (∀ y0 y1 y2 y3 y4, LeO (lex_scanner_quoted.j1 k y0 y1 y2 y3 y4) (lex_scanner_quoted.j1 (k + 1) y0 y1 y2 y3 y4))
 | 0 => ⟨fun _ _ _ r h => by simp [lex_scanner_quoted.l0] at h, fun _ _ _ _ _ r h => by simp [lex_scanner_quoted.j1] at h⟩
 | k + 1 => by
  obtain ⟨ih0, ih1⟩ := lex_scanner_quoted.mono_l k
  refine ⟨?_, ?_⟩
  ·
   intro y0 y1 y2
   unfold lex_scanner_quoted.l0
   repeat' first
   | (with_reducible exact ih0 _ _ _)
   | (with_reducible exact ih1 _ _ _ _ _)
   | (with_reducible exact lex_scanner_escape.mono _ _ _)
   | (with_reducible exact LeO.refl _)
   | (with_reducible exact LeO.none _)
   | (with_reducible refine LeO.ite ?_ ?_)
   | (with_reducible refine LeO.bind ?_ (fun _ => ?_))
   | exact ih0 _ _ _
   | exact ih1 _ _ _ _ _
   | exact lex_scanner_escape.mono _ _ _
   | exact LeO.none _
   | refine LeO.ite ?_ ?_
   | refine LeO.bind ?_ (fun _ => ?_)
  ·
   intro y0 y1 y2 y3 y4
   unfold lex_scanner_quoted.j1
   repeat' first
   | (with_reducible exact ih0 _ _ _)
   | (with_reducible exact ih1 _ _ _ _ _)
   | (with_reducible exact lex_scanner_escape.mono _ _ _)
   | (with_reducible exact LeO.refl _)
   | (with_reducible exact LeO.none _)
   | (with_reducible refine LeO.ite ?_ ?_)
   | (with_reducible refine LeO.bind ?_ (fun _ => ?_))
   | exact ih0 _ _ _
   | exact ih1 _ _ _ _ _
   | exact lex_scanner_escape.mono _ _ _
   | exact LeO.none _
   | refine LeO.ite ?_ ?_
   | refine LeO.bind ?_ (fun _ => ?_)
theorem lex_scanner_quoted.mono : ∀ a0 a1 k, LeO (lex_scanner_quoted.f k a0 a1) (lex_scanner_quoted.f (k + 1) a0 a1) := by
 intro a0 a1 k
 obtain ⟨ih0, ih1⟩ := lex_scanner_quoted.mono_l k
 unfold lex_scanner_quoted.f
 repeat' first
   | (with_reducible exact ih0 _ _ _)
   | (with_reducible exact ih1 _ _ _ _ _)
   | (with_reducible exact lex_scanner_escape.mono _ _ _)
   | (with_reducible exact LeO.refl _)
   | (with_reducible exact LeO.none _)
   | (with_reducible refine LeO.ite ?_ ?_)
   | (with_reducible refine LeO.bind ?_ (fun _ => ?_))
   | exact ih0 _ _ _
   | exact ih1 _ _ _ _ _
   | exact lex_scanner_escape.mono _ _ _
   | exact LeO.none _
   | refine LeO.ite ?_ ?_
   | refine LeO.bind ?_ (fun _ => ?_)
set_option maxHeartbeats 8000000 in
set_option maxRecDepth 100000 in
theorem lex_scanner_quoted.calls (k : Nat) (g : Nat) (s0_0 : ByteArray) (s0_1 : Int) (r1 : List Int) (r2 : Bool) (r3 : ByteArray) (r4 : Int) (w0 w : World) (hI : IsS51 w0 w g s0_0 s0_1) (hB : Below w0.heap.size w0 w) (h : lex_scanner_quoted.f k s0_0 s0_1 = some (r1, r2, r3, r4)) :
  Calls Tryd.prog 30 #[.pointer (some ⟨g, 0, none⟩)] w fun e w' => ∃ v0_ : Value, e = .returned (.tuple #[v0_, .bool r2]) ∧ Kd.R (Kd.int .u8) 5 w' w.heap.size (fun _ => True) v0_ r1 ∧ IsS51 w0 w' g r3 r4 ∧ Below w0.heap.size w0 w' ∧ KeepBut w w' g none := by
 have HI0 := qM hI
 have HK := qM (KeepBut.refl w g none)
 have HL := qM hB.size
 clear hI
 have HW0 := qM hB.size
 have HB := qM hB
 clear hB
 have H : (lex_scanner_quoted.l0 k (([] : List Int)) s0_0 (wrap64 (s0_1 + 1))) = some (r1, r2, r3, r4) := h
 clear h
 obtain ⟨y106, hy106⟩ : ∃ y_ : List Int, y_ = (([] : List Int)) := ⟨_, rfl⟩
 replace H : (lex_scanner_quoted.l0 k y106 s0_0 (wrap64 (s0_1 + 1))) = some (r1, r2, r3, r4) := by first | (rw [hy106]; with_reducible exact H) | (have H2_ := (Option.bind_some _ _).symm.trans H; rw [hy106]; with_reducible exact H2_) | (have H2_ := (Option.bind_some _ _).symm.trans H; with_reducible exact H2_) | with_reducible exact H | (rw [hy106]; exact H) | exact H
 have Ny106 := qM hy106
 clear hy106
 have H' := qM H
 clear H
 obtain ⟨HGz2, hgz2⟩ := HI0.out
 have hcz2_0 := cellS51_0 HGz2
 have hcz2_1 := cellS51_1 HGz2
 have hfz2_0 := blk_frozen HGz2 0
 have hfz2_1 := blk_frozen HGz2 1
 clear HGz2 hgz2
 go_enter Tryd.func30, Tryd.ntmps30
 go_wp2_with (first | ((with_reducible refine gate_dst (N := 15) rfl ?_); refine Kd.R_lit (Kd.int .u8) _ 5 ?hg (N := 15) ?hd (xs := ([] : List Int)) (inner := []) (ok := fun _ => True) (okp := fun _ => True) ?hr ?hp (fun _ hk => hk) trivial (Below.refl _ _) (Nat.le_refl _) (by simp) ?_; (case hd => rfl); (case hg => rfl); (case hr => first | (go_simp; done) | (go_simp; rfl)); (case hp => exact (Reps.none _ _)); intro v107 w3 ho4 hb hg_ hnew_; clear hg_ hnew_; (first | rw [← Ny106.out] at ho4 | (simp only [Int.reduceToNat] at ho4; rw [← Ny106.out] at ho4)); have n0_ := qM (Kd.R_lower ho4 (keep_size (w := w) (g := g) (row := none) (by repeat (first | (with_reducible first | exact HK.out | apply KeepBut.set_ | apply keep_drewN | apply keep_drew | apply keep_alloc) | exact HK.out)))); have n1_ := qM (IsS51.below (show IsS51 w0 (w.setCell ⟨g, 1, none⟩ (.int .i64 (wrap64 (s0_1 + 1)))) g s0_0 (wrap64 (s0_1 + 1)) from by repeat (first | (with_reducible first | exact HI0.out | apply IsS51.alloc | apply IsS51.drewN | apply IsS51.drew | apply IsS51.set_0 | apply IsS51.set_1) | exact HI0.out)) hb); have n2_ := qM (KeepBut.trans (by repeat (first | (with_reducible first | exact HK.out | apply KeepBut.set_ | apply keep_drewN | apply keep_drew | apply keep_alloc) | exact HK.out)) (KeepBut.of_below hb g none) (.inl rfl)); have n3_ := qM (below_step (by repeat (first | (with_reducible first | exact HB.out | apply below_alloc | apply pw_below_drewN | apply below_drew1 | refine below_set ?_ (IsS51.ge HI0.out)) | exact HB.out)) hb); clear HI0; clear HK; clear HB; have HO108 := n0_; have HI0 := n1_; have HK := n2_; have HB := n3_; clear n0_ n1_ n2_ n3_; clear hb ho4))
 go_loopg [4] k (fun kq v4 w' => ∃ (x4_1 : List Int) (x1000_1 : ByteArray) (x1001_1 : Int), Aside0 (lex_scanner_quoted.l0 kq x4_1 x1000_1 x1001_1 = some (r1, r2, r3, r4)) ∧ Aside0 (kq ≤ k) ∧ Aside0 (Kd.R (Kd.int .u8) 5 w' w.heap.size (fun _ => True) v4 x4_1) ∧ Aside0 (IsS51 w0 w' g x1000_1 x1001_1) ∧ Aside0 (KeepBut w w' g none) ∧ Aside0 (Below w0.heap.size w0 w'))
 case atStart => exact ⟨(y106), (s0_0), (wrap64 (s0_1 + 1)), H', ⟨Nat.le_refl _⟩, ⟨qR HO108.out⟩, ⟨by repeat (first | (with_reducible first | exact HI0.out | apply IsS51.alloc | apply IsS51.drewN | apply IsS51.drew | apply IsS51.set_0 | apply IsS51.set_1) | exact HI0.out)⟩, ⟨by repeat (first | (with_reducible first | exact HK.out | apply KeepBut.set_ | apply keep_drewN | apply keep_drew | apply keep_alloc) | exact HK.out)⟩, ⟨by repeat (first | (with_reducible first | exact HB.out | apply below_alloc | apply pw_below_drewN | apply below_drew1 | refine below_set ?_ (IsS51.ge HI0.out)) | exact HB.out)⟩⟩
 case round =>
  clear H'; try clear p2; try clear c3; try clear hcz2_0; try clear hcz2_1; try clear hfz2_0; try clear hfz2_1
  obtain ⟨x4_1, x1000_1, x1001_1, HA, HK1, HO_4, HI0, HK, HB⟩ := hrel
  cases gk with
  | zero => exact absurd HA.out (by simp [lex_scanner_quoted.l0])
  | succ k1 =>
   have H := HA.out
   clear HA
   simp only [lex_scanner_quoted.l0] at H
   replace H := Option.bind_eq_some_iff.mp H
   obtain ⟨⟨t109, t110, t111⟩, A50, H⟩ := H
   replace H : (if t109 < 32 then (lex_scanner_quoted.j1 k1 x4_1 t109 true t110 t111) else (lex_scanner_quoted.j1 k1 x4_1 t109 (decide (t109 > 126)) t110 t111)) = some (r1, r2, r3, r4) := H
   have A5 := qM A50
   clear A50
   have HC6 := qM H
   clear H
   go_upto_region 6 with (first | ((with_reducible refine gate_callee (f := 24) rfl ?_); refine goesL_ (some 17) rfl rfl Tryd.func24 (by kernel_rfl) rfl #[.pointer (some ⟨g, 0, none⟩)] rfl (by (try simp only [List.map_toArray, List.map_cons, List.map_nil]); first | done | rfl | (simp only [List.length_drop, List.length_take]; rfl)) ?_; (with_reducible refine (lex_scanner_here.calls g x1000_1 x1001_1 t109 t110 t111 w0 _ ?side1 ?side2 A5.out).mono ?_); (case side1 => repeat (first | (with_reducible first | exact HI0.out | apply IsS51.alloc | apply IsS51.drewN | apply IsS51.drew | apply IsS51.set_0 | apply IsS51.set_1) | exact HI0.out)); (case side2 => repeat (first | (with_reducible first | exact HB.out | apply below_alloc | apply pw_below_drewN | apply below_drew1 | refine below_set ?_ (IsS51.ge HI0.out)) | exact HB.out)); rintro e w7 ⟨rfl, hi, hb, hk⟩; refine ⟨_, rfl, ?_⟩; have n0_ := qM (Kd.R_mono (Kd.R_keep (IsS51.apart (show IsS51 w0 _ g x1000_1 x1001_1 from by repeat (first | (with_reducible first | exact HI0.out | apply IsS51.alloc | apply IsS51.drewN | apply IsS51.drew | apply IsS51.set_0 | apply IsS51.set_1) | exact HI0.out)) (qR HO_4.out) (by decide)) hk (fun _ h => h.2)) (fun _ h => h.1)); have n1_ := qM (KeepBut.trans (by repeat (first | (with_reducible first | exact HK.out | apply KeepBut.set_ | apply keep_drewN | apply keep_drew | apply keep_alloc) | exact HK.out)) hk (.inl rfl)); have n2_ := qM (hb); have n3_ := qM (hi); clear HO_4; clear HK; clear HB; clear HI0; have HO_4 := n0_; have HK := n1_; have HB := n2_; have HI0 := n3_; clear n0_ n1_ n2_ n3_; (try clear hb); (try clear hb2); (try clear hk); (try clear hi)))
   (try simp only [Act.put, List.setIfInBounds_toArray, List.set_cons_zero, List.set_cons_succ])
   go_cut [29] (fun v29 wc => ∃ (kq : Nat) (x29_5 : Bool), v29 = .bool x29_5 ∧ Aside0 (lex_scanner_quoted.j1 kq x4_1 t109 x29_5 t110 t111 = some (r1, r2, r3, r4)) ∧ Aside0 (kq ≤ k1) ∧ Aside0 (Kd.R (Kd.int .u8) 5 wc w.heap.size (fun _ => True) u4 x4_1) ∧ Aside0 (IsS51 w0 wc g t110 t111) ∧ Aside0 (KeepBut w wc g none) ∧ Aside0 (Below w0.heap.size w0 wc))
   case first =>
    have H := HC6.out
    clear HC6
    by_cases c8 : t109 < 32
    ·
     rw [if_pos c8] at H
     have c8b0 : decide (t109 < 32) = true := decide_eq_true c8
     clear c8
     (first | rw [c8b0] | (simp only [i64_w, i32_w]; rw [c8b0]) | skip)
     have H' := qM H
     clear H
     go_wp2
     go_meet
     case rel => exact ⟨_, (true), qS, H', ⟨by have := HK1.out; first | omega | exact Nat.le_refl _⟩, ⟨qR HO_4.out⟩, ⟨by repeat (first | (with_reducible first | exact HI0.out | apply IsS51.alloc | apply IsS51.drewN | apply IsS51.drew | apply IsS51.set_0 | apply IsS51.set_1) | exact HI0.out)⟩, ⟨by repeat (first | (with_reducible first | exact HK.out | apply KeepBut.set_ | apply keep_drewN | apply keep_drew | apply keep_alloc) | exact HK.out)⟩, ⟨by repeat (first | (with_reducible first | exact HB.out | apply below_alloc | apply pw_below_drewN | apply below_drew1 | refine below_set ?_ (IsS51.ge HI0.out)) | exact HB.out)⟩⟩
    ·
     rw [if_neg c8] at H
     have c8b0 : decide (t109 < 32) = false := decide_eq_false c8
     clear c8
     (first | rw [c8b0] | (simp only [i64_w, i32_w]; rw [c8b0]) | skip)
     have H' := qM H
     clear H
     go_wp2
     go_meet
     case rel => exact ⟨_, (decide (t109 > 126)), qS, H', ⟨by have := HK1.out; first | omega | exact Nat.le_refl _⟩, ⟨qR HO_4.out⟩, ⟨by repeat (first | (with_reducible first | exact HI0.out | apply IsS51.alloc | apply IsS51.drewN | apply IsS51.drew | apply IsS51.set_0 | apply IsS51.set_1) | exact HI0.out)⟩, ⟨by repeat (first | (with_reducible first | exact HK.out | apply KeepBut.set_ | apply keep_drewN | apply keep_drew | apply keep_alloc) | exact HK.out)⟩, ⟨by repeat (first | (with_reducible first | exact HB.out | apply below_alloc | apply pw_below_drewN | apply below_drew1 | refine below_set ?_ (IsS51.ge HI0.out)) | exact HB.out)⟩⟩
   case rest =>
    clear HC6; try clear c2; try clear p2; try clear c3; try clear p6; try clear c8; try clear c8b0; try clear hcz2_0; try clear hcz2_1; try clear hfz2_0; try clear hfz2_1; try clear p2
    obtain ⟨kq, x29_5, rfl, HA, HJ5, HO_4, HI0, HK, HB⟩ := hcut
    cases kq with
    | zero => exact absurd HA.out (by simp [lex_scanner_quoted.j1])
    | succ kj5 =>
     have H := HA.out
     clear HA
     simp only [lex_scanner_quoted.j1] at H
     by_cases c9 : x29_5 = true
     ·
      subst c9
      have H1 : (some (([] : List Int), false, t110, t111)) = some (r1, r2, r3, r4) := by rw [if_pos rfl] at H; exact H
      clear H
      have H := H1
      clear H1
      simp only [Option.some.injEq, Prod.mk.injEq] at H
      obtain ⟨rfl, rfl, rfl, rfl⟩ := H
      go_wp2
      go_ret2
      exact ⟨_, by first | rfl | (simp [errW_none, errW_some] <;> rfl) | (simp [*, errW_none, errW_some] <;> rfl), by first | exact Kd.R_nil _ _ _ _ _ | exact Kd.N_nil _ _ _ _ _ | exact Kd.V_nil _ _ _ _ _ | exact Kd.Q_nil _ _ _ _ _ | exact Kd.S_nil _ _ _ _ _, by repeat (first | (with_reducible first | exact HI0.out | apply IsS51.alloc | apply IsS51.drewN | apply IsS51.drew | apply IsS51.set_0 | apply IsS51.set_1) | exact HI0.out), by repeat (first | (with_reducible first | exact HB.out | apply below_alloc | apply pw_below_drewN | apply below_drew1 | refine below_set ?_ (IsS51.ge HI0.out)) | exact HB.out), by repeat (first | (with_reducible first | exact HK.out | apply KeepBut.set_ | apply keep_drewN | apply keep_drew | apply keep_alloc) | exact HK.out)⟩
     ·
      replace c9 := Bool.eq_false_iff.mpr c9
      subst c9
      have H1 : (if t109 = 34 then (some (x4_1, true, t110, wrap64 (t111 + 1))) else (if t109 = 92 then ((lex_scanner_escape.f kj5 t110 (wrap64 (t111 + 1))).bind fun bt112 => (if bt112.2.1 = true then (if x4_1.length < 140737488355328 then (lex_scanner_quoted.l0 kj5 (x4_1 ++ [bt112.1]) bt112.2.2.1 bt112.2.2.2) else (none)) else (some (([] : List Int), false, bt112.2.2.1, bt112.2.2.2)))) else (if x4_1.length < 140737488355328 then (lex_scanner_quoted.l0 kj5 (x4_1 ++ [t109]) t110 (wrap64 (t111 + 1))) else (none)))) = some (r1, r2, r3, r4) := by rw [if_neg (show ¬ (false = true) by decide)] at H; exact H
      clear H
      have H := H1
      clear H1
      by_cases c10 : t109 = 34
      ·
       rw [if_pos c10] at H
       have c10b0 : (t109 == 34) = true := beq_iff_eq.mpr c10
       have c10b1 : (t109 != 34) = false := bne_eq_false_iff_eq.mpr c10
       clear c10
       simp only [Option.some.injEq, Prod.mk.injEq] at H
       obtain ⟨rfl, rfl, rfl, rfl⟩ := H
       obtain ⟨HGz11, hgz11⟩ := HI0.out
       have hcz11_0 := cellS51_0 HGz11
       have hcz11_1 := cellS51_1 HGz11
       have hfz11_0 := blk_frozen HGz11 0
       have hfz11_1 := blk_frozen HGz11 1
       clear HGz11 hgz11
       go_wp2
       go_ret2
       exact ⟨_, by first | rfl | (simp [errW_none, errW_some] <;> rfl) | (simp [*, errW_none, errW_some] <;> rfl), by (with_reducible repeat (first | apply Kd.R_alloc | apply Kd.R_drewN | apply Kd.R_drew)); exact Kd.R_mono (Kd.R_far (p := ⟨g, 1, none⟩) (IsS51.apart HI0.out HO_4.out (by decide)) (fun _ hk => hk.2) (.int .i64 (wrap64 (t111 + 1)))) (fun _ hk => trivial), by repeat (first | (with_reducible first | exact HI0.out | apply IsS51.alloc | apply IsS51.drewN | apply IsS51.drew | apply IsS51.set_0 | apply IsS51.set_1) | exact HI0.out), by repeat (first | (with_reducible first | exact HB.out | apply below_alloc | apply pw_below_drewN | apply below_drew1 | refine below_set ?_ (IsS51.ge HI0.out)) | exact HB.out), by repeat (first | (with_reducible first | exact HK.out | apply KeepBut.set_ | apply keep_drewN | apply keep_drew | apply keep_alloc) | exact HK.out)⟩
      ·
       rw [if_neg c10] at H
       have c10b0 : (t109 == 34) = false := beq_eq_false_iff_ne.mpr c10
       have c10b1 : (t109 != 34) = true := bne_iff_ne.mpr c10
       by_cases c12 : t109 = 92
       ·
        rw [if_pos c12] at H
        have c12b0 : (t109 == 92) = true := beq_iff_eq.mpr c12
        have c12b1 : (t109 != 92) = false := bne_eq_false_iff_eq.mpr c12
        clear c12
        replace H := Option.bind_eq_some_iff.mp H
        obtain ⟨⟨t112, t113, t114, t115⟩, A130, H⟩ := H
        replace H : (if t113 = true then (if x4_1.length < 140737488355328 then (lex_scanner_quoted.l0 kj5 (x4_1 ++ [t112]) t114 t115) else (none)) else (some (([] : List Int), false, t114, t115))) = some (r1, r2, r3, r4) := H
        have A13 := qM A130
        clear A130
        by_cases c14 : t113 = true
        ·
         subst c14
         have H1 : (if x4_1.length < 140737488355328 then (lex_scanner_quoted.l0 kj5 (x4_1 ++ [t112]) t114 t115) else (none)) = some (r1, r2, r3, r4) := by rw [if_pos rfl] at H; exact H
         clear H
         have H := H1
         clear H1
         by_cases c15 : x4_1.length < 140737488355328
         ·
          rw [if_pos c15] at H
          have LMc15 := qM c15
          clear c15
          obtain ⟨y116, hy116⟩ : ∃ y_ : List Int, y_ = (x4_1 ++ [t112]) := ⟨_, rfl⟩
          replace H : (lex_scanner_quoted.l0 kj5 y116 t114 t115) = some (r1, r2, r3, r4) := by first | (rw [hy116]; with_reducible exact H) | (have H2_ := (Option.bind_some _ _).symm.trans H; rw [hy116]; with_reducible exact H2_) | (have H2_ := (Option.bind_some _ _).symm.trans H; with_reducible exact H2_) | with_reducible exact H | (rw [hy116]; exact H) | exact H
          have Ny116 := qM hy116
          clear hy116
          have H' := qM H
          clear H
          obtain ⟨HGz16, hgz16⟩ := HI0.out
          have hcz16_0 := cellS51_0 HGz16
          have hcz16_1 := cellS51_1 HGz16
          have hfz16_0 := blk_frozen HGz16 0
          have hfz16_1 := blk_frozen HGz16 1
          clear HGz16 hgz16
          go_wp2_with (first | ((with_reducible refine gate_callee (f := 42) rfl ?_); refine goesL_ (some 59) rfl rfl Tryd.func42 (by kernel_rfl) rfl #[.pointer (some ⟨g, 0, none⟩)] rfl (by (try simp only [List.map_toArray, List.map_cons, List.map_nil]); first | done | rfl | (simp only [List.length_drop, List.length_take]; rfl)) ?_; (with_reducible refine (lex_scanner_escape.calls kj5 g t110 (wrap64 (t111 + 1)) t112 true t114 t115 w0 _ ?side1 ?side2 A13.out).mono ?_); (case side1 => repeat (first | (with_reducible first | exact HI0.out | apply IsS51.alloc | apply IsS51.drewN | apply IsS51.drew | apply IsS51.set_0 | apply IsS51.set_1) | exact HI0.out)); (case side2 => repeat (first | (with_reducible first | exact HB.out | apply below_alloc | apply pw_below_drewN | apply below_drew1 | refine below_set ?_ (IsS51.ge HI0.out)) | exact HB.out)); rintro e w17 ⟨rfl, hi, hb, hk⟩; refine ⟨_, rfl, ?_⟩; have n0_ := qM (Kd.R_mono (Kd.R_keep (IsS51.apart (show IsS51 w0 _ g t110 (wrap64 (t111 + 1)) from by repeat (first | (with_reducible first | exact HI0.out | apply IsS51.alloc | apply IsS51.drewN | apply IsS51.drew | apply IsS51.set_0 | apply IsS51.set_1) | exact HI0.out)) (by (with_reducible repeat (first | apply Kd.R_alloc | apply Kd.R_drewN | apply Kd.R_drew)); exact (Kd.R_mono (Kd.R_far (p := ⟨g, 1, none⟩) (IsS51.apart HI0.out HO_4.out (by decide)) (fun _ hk => hk.2) (.int .i64 (wrap64 (t111 + 1)))) (fun _ h_ => h_.1))) (by decide)) hk (fun _ h => h.2)) (fun _ h => h.1)); have n1_ := qM (KeepBut.trans (by repeat (first | (with_reducible first | exact HK.out | apply KeepBut.set_ | apply keep_drewN | apply keep_drew | apply keep_alloc) | exact HK.out)) hk (.inl rfl)); have n2_ := qM (hb); have n3_ := qM (hi); clear HO_4; clear HK; clear HB; clear HI0; have HO_4 := n0_; have HK := n1_; have HB := n2_; have HI0 := n3_; clear n0_ n1_ n2_ n3_; (try clear hb); (try clear hb2); (try clear hk); (try clear hi)) | ((with_reducible refine gate_builtin (b := .append) (xs := #[.tmp 64, .tmp 66]) rfl ?_); at_builtin; refine Kd.R_append (Kd.int .u8) w.heap.size rfl (.tmp 64) (.tmp 66) 25 5 (.int .u8 0) 1 rfl Tryd.underlying25 info5 rfl (by decide) (by omega) u4 x4_1 t112 [.int .u8 t112] (fun _ => True) (fun _ => False) rfl rfl ?aP (fun _ hk => hk.elim) ?aF ?aO (Below.refl _ _) ?aS ?aL ?_; (case aP => exact rfl); (case aF => exact (fun _ _ => trivial)); (case aO => exact (qR HO_4.out)); (case aS => exact (keep_size (w := w) (g := g) (row := none) (by repeat (first | (with_reducible first | exact HK.out | apply KeepBut.set_ | apply keep_drewN | apply keep_drew | apply keep_alloc) | exact HK.out)))); (case aL => have := LMc15.out; omega); intro v117 w18 ho hb hg hat; rw [← Ny116.out] at ho; have n0_ := qM (IsS51.grown (by repeat (first | (with_reducible first | exact HI0.out | apply IsS51.alloc | apply IsS51.drewN | apply IsS51.drew | apply IsS51.set_0 | apply IsS51.set_1) | exact HI0.out)) hg (IsS51.own_ne HI0.out HO_4.out (by decide))); have n1_ := qM (below_weaken (by repeat (first | (with_reducible first | exact HB.out | apply below_alloc | apply pw_below_drewN | apply below_drew1 | refine below_set ?_ (IsS51.ge HI0.out)) | exact HB.out)) HL.out hb); have n2_ := qM (KeepBut.trans (by repeat (first | (with_reducible first | exact HK.out | apply KeepBut.set_ | apply keep_drewN | apply keep_drew | apply keep_alloc) | exact HK.out)) (KeepBut.of_grown hg g) (Kd.R_base2 HO_4.out)); have n3_ := qM (ho); clear HI0; clear HB; clear HK; clear HO_4; have HI0 := n0_; have HB := n1_; have HK := n2_; have HO118 := n3_; clear n0_ n1_ n2_ n3_; clear ho hb hg hat))
          go_roundg kj5
          case measure => have := HK1.out; have := HJ5.out; omega
          case rel => exact ⟨(y116), (t114), (t115), H', ⟨by have := HK1.out; have := HJ5.out; omega⟩, ⟨qR HO118.out⟩, ⟨by repeat (first | (with_reducible first | exact HI0.out | apply IsS51.alloc | apply IsS51.drewN | apply IsS51.drew | apply IsS51.set_0 | apply IsS51.set_1) | exact HI0.out)⟩, ⟨by repeat (first | (with_reducible first | exact HK.out | apply KeepBut.set_ | apply keep_drewN | apply keep_drew | apply keep_alloc) | exact HK.out)⟩, ⟨by repeat (first | (with_reducible first | exact HB.out | apply below_alloc | apply pw_below_drewN | apply below_drew1 | refine below_set ?_ (IsS51.ge HI0.out)) | exact HB.out)⟩⟩
         ·
          rw [if_neg c15] at H
          exact absurd H (by simp)
        ·
         replace c14 := Bool.eq_false_iff.mpr c14
         subst c14
         have H1 : (some (([] : List Int), false, t114, t115)) = some (r1, r2, r3, r4) := by rw [if_neg (show ¬ (false = true) by decide)] at H; exact H
         clear H
         have H := H1
         clear H1
         simp only [Option.some.injEq, Prod.mk.injEq] at H
         obtain ⟨rfl, rfl, rfl, rfl⟩ := H
         obtain ⟨HGz19, hgz19⟩ := HI0.out
         have hcz19_0 := cellS51_0 HGz19
         have hcz19_1 := cellS51_1 HGz19
         have hfz19_0 := blk_frozen HGz19 0
         have hfz19_1 := blk_frozen HGz19 1
         clear HGz19 hgz19
         go_wp2_with (first | ((with_reducible refine gate_callee (f := 42) rfl ?_); refine goesL_ (some 59) rfl rfl Tryd.func42 (by kernel_rfl) rfl #[.pointer (some ⟨g, 0, none⟩)] rfl (by (try simp only [List.map_toArray, List.map_cons, List.map_nil]); first | done | rfl | (simp only [List.length_drop, List.length_take]; rfl)) ?_; (with_reducible refine (lex_scanner_escape.calls kj5 g t110 (wrap64 (t111 + 1)) t112 false t114 t115 w0 _ ?side1 ?side2 A13.out).mono ?_); (case side1 => repeat (first | (with_reducible first | exact HI0.out | apply IsS51.alloc | apply IsS51.drewN | apply IsS51.drew | apply IsS51.set_0 | apply IsS51.set_1) | exact HI0.out)); (case side2 => repeat (first | (with_reducible first | exact HB.out | apply below_alloc | apply pw_below_drewN | apply below_drew1 | refine below_set ?_ (IsS51.ge HI0.out)) | exact HB.out)); rintro e w20 ⟨rfl, hi, hb, hk⟩; refine ⟨_, rfl, ?_⟩; have n0_ := qM (Kd.R_mono (Kd.R_keep (IsS51.apart (show IsS51 w0 _ g t110 (wrap64 (t111 + 1)) from by repeat (first | (with_reducible first | exact HI0.out | apply IsS51.alloc | apply IsS51.drewN | apply IsS51.drew | apply IsS51.set_0 | apply IsS51.set_1) | exact HI0.out)) (by (with_reducible repeat (first | apply Kd.R_alloc | apply Kd.R_drewN | apply Kd.R_drew)); exact (Kd.R_mono (Kd.R_far (p := ⟨g, 1, none⟩) (IsS51.apart HI0.out HO_4.out (by decide)) (fun _ hk => hk.2) (.int .i64 (wrap64 (t111 + 1)))) (fun _ h_ => h_.1))) (by decide)) hk (fun _ h => h.2)) (fun _ h => h.1)); have n1_ := qM (KeepBut.trans (by repeat (first | (with_reducible first | exact HK.out | apply KeepBut.set_ | apply keep_drewN | apply keep_drew | apply keep_alloc) | exact HK.out)) hk (.inl rfl)); have n2_ := qM (hb); have n3_ := qM (hi); clear HO_4; clear HK; clear HB; clear HI0; have HO_4 := n0_; have HK := n1_; have HB := n2_; have HI0 := n3_; clear n0_ n1_ n2_ n3_; (try clear hb); (try clear hb2); (try clear hk); (try clear hi)))
         go_ret2
         exact ⟨_, by first | rfl | (simp [errW_none, errW_some] <;> rfl) | (simp [*, errW_none, errW_some] <;> rfl), by first | exact Kd.R_nil _ _ _ _ _ | exact Kd.N_nil _ _ _ _ _ | exact Kd.V_nil _ _ _ _ _ | exact Kd.Q_nil _ _ _ _ _ | exact Kd.S_nil _ _ _ _ _, by repeat (first | (with_reducible first | exact HI0.out | apply IsS51.alloc | apply IsS51.drewN | apply IsS51.drew | apply IsS51.set_0 | apply IsS51.set_1) | exact HI0.out), by repeat (first | (with_reducible first | exact HB.out | apply below_alloc | apply pw_below_drewN | apply below_drew1 | refine below_set ?_ (IsS51.ge HI0.out)) | exact HB.out), by repeat (first | (with_reducible first | exact HK.out | apply KeepBut.set_ | apply keep_drewN | apply keep_drew | apply keep_alloc) | exact HK.out)⟩
       ·
        rw [if_neg c12] at H
        have c12b0 : (t109 == 92) = false := beq_eq_false_iff_ne.mpr c12
        have c12b1 : (t109 != 92) = true := bne_iff_ne.mpr c12
        by_cases c21 : x4_1.length < 140737488355328
        ·
         rw [if_pos c21] at H
         have LMc21 := qM c21
         clear c21
         obtain ⟨y119, hy119⟩ : ∃ y_ : List Int, y_ = (x4_1 ++ [t109]) := ⟨_, rfl⟩
         replace H : (lex_scanner_quoted.l0 kj5 y119 t110 (wrap64 (t111 + 1))) = some (r1, r2, r3, r4) := by first | (rw [hy119]; with_reducible exact H) | (have H2_ := (Option.bind_some _ _).symm.trans H; rw [hy119]; with_reducible exact H2_) | (have H2_ := (Option.bind_some _ _).symm.trans H; with_reducible exact H2_) | with_reducible exact H | (rw [hy119]; exact H) | exact H
         have Ny119 := qM hy119
         clear hy119
         have H' := qM H
         clear H
         obtain ⟨HGz22, hgz22⟩ := HI0.out
         have hcz22_0 := cellS51_0 HGz22
         have hcz22_1 := cellS51_1 HGz22
         have hfz22_0 := blk_frozen HGz22 0
         have hfz22_1 := blk_frozen HGz22 1
         clear HGz22 hgz22
         go_wp2_with (first | ((with_reducible refine gate_builtin (b := .append) (xs := #[.tmp 25, .tmp 27]) rfl ?_); at_builtin; refine Kd.R_append (Kd.int .u8) w.heap.size rfl (.tmp 25) (.tmp 27) 25 5 (.int .u8 0) 1 rfl Tryd.underlying25 info5 rfl (by decide) (by omega) u4 x4_1 t109 [.int .u8 t109] (fun _ => True) (fun _ => False) rfl (by first | (go_simp; done) | (go_simp; rfl)) ?aP (fun _ hk => hk.elim) ?aF ?aO (Below.refl _ _) ?aS ?aL ?_; (case aP => exact rfl); (case aF => exact (fun _ _ => trivial)); (case aO => exact (by (with_reducible repeat (first | apply Kd.R_alloc | apply Kd.R_drewN | apply Kd.R_drew)); exact Kd.R_mono (Kd.R_far (p := ⟨g, 1, none⟩) (IsS51.apart HI0.out HO_4.out (by decide)) (fun _ hk => hk.2) (.int .i64 (wrap64 (t111 + 1)))) (fun _ hk => trivial))); (case aS => exact (keep_size (w := w) (g := g) (row := none) (by repeat (first | (with_reducible first | exact HK.out | apply KeepBut.set_ | apply keep_drewN | apply keep_drew | apply keep_alloc) | exact HK.out)))); (case aL => have := LMc21.out; omega); intro v120 w23 ho hb hg hat; rw [← Ny119.out] at ho; have n0_ := qM (IsS51.grown (by repeat (first | (with_reducible first | exact HI0.out | apply IsS51.alloc | apply IsS51.drewN | apply IsS51.drew | apply IsS51.set_0 | apply IsS51.set_1) | exact HI0.out)) hg (IsS51.own_ne HI0.out HO_4.out (by decide))); have n1_ := qM (below_weaken (by repeat (first | (with_reducible first | exact HB.out | apply below_alloc | apply pw_below_drewN | apply below_drew1 | refine below_set ?_ (IsS51.ge HI0.out)) | exact HB.out)) HL.out hb); have n2_ := qM (KeepBut.trans (by repeat (first | (with_reducible first | exact HK.out | apply KeepBut.set_ | apply keep_drewN | apply keep_drew | apply keep_alloc) | exact HK.out)) (KeepBut.of_grown hg g) (Kd.R_base2 HO_4.out)); have n3_ := qM (ho); clear HI0; clear HB; clear HK; clear HO_4; have HI0 := n0_; have HB := n1_; have HK := n2_; have HO121 := n3_; clear n0_ n1_ n2_ n3_; clear ho hb hg hat))
         go_roundg kj5
         case measure => have := HK1.out; have := HJ5.out; omega
         case rel => exact ⟨(y119), (t110), (wrap64 (t111 + 1)), H', ⟨by have := HK1.out; have := HJ5.out; omega⟩, ⟨qR HO121.out⟩, ⟨by repeat (first | (with_reducible first | exact HI0.out | apply IsS51.alloc | apply IsS51.drewN | apply IsS51.drew | apply IsS51.set_0 | apply IsS51.set_1) | exact HI0.out)⟩, ⟨by repeat (first | (with_reducible first | exact HK.out | apply KeepBut.set_ | apply keep_drewN | apply keep_drew | apply keep_alloc) | exact HK.out)⟩, ⟨by repeat (first | (with_reducible first | exact HB.out | apply below_alloc | apply pw_below_drewN | apply below_drew1 | refine below_set ?_ (IsS51.ge HI0.out)) | exact HB.out)⟩⟩
        ·
         rw [if_neg c21] at H
         exact absurd H (by simp)

/-! ### lex_scanner_token: function 20 -/
def lex_scanner_token.f (k : Nat) (s0_0 : ByteArray) (s0_1 : Int) : Option (Int × ByteArray × Int × List Int × Int × Int × ByteArray × Int) :=
 if 0 ≤ s0_1 ∧ s0_1 < (s0_0.size : Int) ∧ s0_0.size ≤ 16384 then tokWith (lex_scanner_quoted.f k) s0_0 s0_1.toNat else none
theorem lex_scanner_token.mono : ∀ a0 a1 k, LeO (lex_scanner_token.f k a0 a1) (lex_scanner_token.f (k + 1) a0 a1) := by
 intro a0 a1 k r h
 unfold lex_scanner_token.f at h ⊢
 split at h
 ·
  rename_i hc
  rw [if_pos hc]
  exact tokWith_mono (fun s i r h => lex_scanner_quoted.mono s i k r h) _ _ _ h
 ·
  cases h
theorem lex_scanner_token.calls (k : Nat) (g : Nat) (s0_0 : ByteArray) (s0_1 : Int) (r1 : Int) (r2 : ByteArray) (r3 : Int) (r4 : List Int) (r5 : Int) (r6 : Int) (r7 : ByteArray) (r8 : Int) (w0 w : World) (hI : IsS51 w0 w g s0_0 s0_1) (hB : Below w0.heap.size w0 w) (hG : Glob w0) (h : lex_scanner_token.f k s0_0 s0_1 = some (r1, r2, r3, r4, r5, r6, r7, r8)) :
  Calls Tryd.prog 20 #[.pointer (some ⟨g, 0, none⟩)] w fun e w' => ∃ v3_ : Value, e = .returned (.tuple #[.agg #[.int .i64 r1, .string r2, .int .i64 r3, v3_, .int .i64 r5], .int .i64 r6]) ∧ Kd.R (Kd.int .u8) 5 w' w.heap.size (fun _ => True) v3_ r4 ∧ IsS51 w0 w' g r7 r8 ∧ Below w0.heap.size w0 w' ∧ KeepBut w w' g none := by
 unfold lex_scanner_token.f at h
 split at h
 ·
  rename_i hc
  obtain ⟨h1, h2, h3⟩ := hc
  obtain ⟨i, rfl⟩ := Int.eq_ofNat_of_zero_le h1
  refine (token_calls (lex_scanner_quoted.f k) g s0_0 i r1 r2 r3 r4 r5 r6 r7 r8 w0 w hI.1 hI.2 hB hG (by omega) h3 (fun l ok s2 j2 hq w' hS hb => ?_) h).mono ?_
  ·
   refine (lex_scanner_quoted.calls k g s0_0 i l ok s2 j2 w0 w' ⟨hS, hI.2⟩ hb hq).mono ?_
   rintro e w'' ⟨v, h1, h2, h3, h4, h5⟩
   exact ⟨v, h1, h2, h3.1, h4, h5⟩
  ·
   rintro e w' ⟨v, h1, h2, h3, h4, h5⟩
   exact ⟨v, h1, h2, ⟨h3, hI.2⟩, h4, h5⟩
 ·
  cases h
/-! ### lex_Scan: function 14 -/
def lex_Scan.l0 : Nat → ByteArray → List (S44) → ByteArray → Int → Option ((List (S44)) × Int × Int)
 | 0, _, _, _, _ => none
 | k + 1, x0, x6, x123000, x123001 => (lex_scanner_skip.f k x123000 x123001).bind fun bt123 => (if bt123.2 ≥ (x0.size : Int) then (some (x6, 0, 0)) else (if (x6.length : Int) = 4000 then (some (([] : List (S44)), bt123.2, 155)) else ((lex_scanner_token.f k bt123.1 bt123.2).bind fun bt125 => (if bt125.2.2.2.2.2.1 = 0 then (if x6.length < 2199023255552 then (lex_Scan.l0 k x0 (x6 ++ [(⟨bt125.1, bt125.2.1, bt125.2.2.1, bt125.2.2.2.1, bt125.2.2.2.2.1⟩ : S44)]) bt125.2.2.2.2.2.2.1 bt125.2.2.2.2.2.2.2) else (none)) else (some (([] : List (S44)), bt123.2, bt125.2.2.2.2.2.1))))))
def lex_Scan.f (k : Nat) (a0 : ByteArray) : Option ((List (S44)) × Int × Int) := if (a0.size : Int) > 16384 then (some (([] : List (S44)), 0, 150)) else (lex_Scan.l0 k a0 ([] : List (S44)) a0 0)
theorem lex_Scan.mono_l : ∀ k, (∀ y0 y1 y2 y3, LeO (lex_Scan.l0 k y0 y1 y2 y3) (lex_Scan.l0 (k + 1) y0 y1 y2 y3))
 | 0 => fun _ _ _ _ r h => by simp [lex_Scan.l0] at h
 | k + 1 => by
  have ih0 := lex_Scan.mono_l k
  ·
   intro y0 y1 y2 y3
   unfold lex_Scan.l0
   repeat' first
   | (with_reducible exact ih0 _ _ _ _)
   | (with_reducible exact lex_scanner_skip.mono _ _ _)
   | (with_reducible exact lex_scanner_token.mono _ _ _)
   | (with_reducible exact LeO.refl _)
   | (with_reducible exact LeO.none _)
   | (with_reducible refine LeO.ite ?_ ?_)
   | (with_reducible refine LeO.bind ?_ (fun _ => ?_))
   | exact ih0 _ _ _ _
   | exact lex_scanner_skip.mono _ _ _
   | exact lex_scanner_token.mono _ _ _
   | exact LeO.none _
   | refine LeO.ite ?_ ?_
   | refine LeO.bind ?_ (fun _ => ?_)
theorem lex_Scan.mono : ∀ a0 k, LeO (lex_Scan.f k a0) (lex_Scan.f (k + 1) a0) := by
 intro a0 k
 have ih0 := lex_Scan.mono_l k
 unfold lex_Scan.f
 repeat' first
   | (with_reducible exact ih0 _ _ _ _)
   | (with_reducible exact lex_scanner_skip.mono _ _ _)
   | (with_reducible exact lex_scanner_token.mono _ _ _)
   | (with_reducible exact LeO.refl _)
   | (with_reducible exact LeO.none _)
   | (with_reducible refine LeO.ite ?_ ?_)
   | (with_reducible refine LeO.bind ?_ (fun _ => ?_))
   | exact ih0 _ _ _ _
   | exact lex_scanner_skip.mono _ _ _
   | exact lex_scanner_token.mono _ _ _
   | exact LeO.none _
   | refine LeO.ite ?_ ?_
   | refine LeO.bind ?_ (fun _ => ?_)
set_option maxHeartbeats 8000000 in
set_option maxRecDepth 100000 in
theorem lex_Scan.calls (k : Nat) (a0 : ByteArray) (r1 : List (S44)) (r2 : Int) (r3 : Int) (w : World) (hG : Glob w) (h : lex_Scan.f k a0 = some (r1, r2, r3)) :
  Calls Tryd.prog 14 #[.string a0] w fun e w' => ∃ v0_ : Value, e = .returned (.tuple #[v0_, .int .i64 r2, .int .i64 r3]) ∧ Kd.S k44 44 w' w.heap.size (fun _ => True) v0_ r1 ∧ Below w.heap.size w w' := by
 have hu51 := Tryd.underlying51
 have hu44 := Tryd.underlying44
 have HB := qM (Below.refl w.heap.size w)
 have H : (if (a0.size : Int) > 16384 then (some (([] : List (S44)), 0, 150)) else (lex_Scan.l0 k a0 ([] : List (S44)) a0 0)) = some (r1, r2, r3) := h
 clear h
 by_cases c2 : (a0.size : Int) > 16384
 ·
  rw [if_pos c2] at H
  have c2b0 : decide (16384 < (a0.size : Int)) = true := decide_eq_true c2
  have c2b1 : decide (16384 < a0.size) = true := decide_eq_true (by omega)
  clear c2
  simp only [Option.some.injEq, Prod.mk.injEq] at H
  obtain ⟨rfl, rfl, rfl⟩ := H
  go_enter Tryd.func14, Tryd.ntmps14
  go_wp2
  go_ret3
  exact ⟨_, by first | rfl | (simp [errW_none, errW_some] <;> rfl) | (simp [*, errW_none, errW_some] <;> rfl), by first | exact Kd.S_nil _ _ _ _ _ | exact Kd.N_nil _ _ _ _ _ | exact Kd.V_nil _ _ _ _ _ | exact Kd.Q_nil _ _ _ _ _ | exact Kd.R_nil _ _ _ _ _, by repeat (first | (with_reducible first | exact HB.out | apply below_alloc | apply pw_below_drewN | apply below_drew1) | exact HB.out)⟩
 ·
  rw [if_neg c2] at H
  have c2b0 : decide (16384 < (a0.size : Int)) = false := decide_eq_false c2
  have c2b1 : decide (16384 < a0.size) = false := decide_eq_false (by omega)
  clear c2
  have H' := qM H
  clear H
  go_enter Tryd.func14, Tryd.ntmps14
  go_wp2_with (first | ((with_reducible refine gate_dst (N := 15) rfl ?_); refine box_event ?hg (N := 15) ?hd (cs := #[.string a0, .int .i64 0]) (t := 51) ?hr ?_; (case hd => rfl); (case hg => rfl); (case hr => first | (go_simp; done) | (go_simp; rfl)); intro gb122 hg w3 hbox hb; have n0_ := qM (below_step (qB HB.out) hb); have n1_ := qM ((show IsS51 w w3 gb122 a0 0 from ⟨hbox, by rw [hg]; exact (below_size (qB HB.out))⟩)); clear HB; have HB := n0_; have HI122 := n1_; clear n0_ n1_; clear hb hbox hg))
  go_loopg [6] k (fun kq v6 w' => ∃ (x6_1 : List (S44)) (x123000_1 : ByteArray) (x123001_1 : Int), Aside0 (lex_Scan.l0 kq a0 x6_1 x123000_1 x123001_1 = some (r1, r2, r3)) ∧ Aside0 (kq ≤ k) ∧ Aside0 (Kd.S k44 44 w' w.heap.size (fun _ => True) v6 x6_1) ∧ Aside0 (IsS51 w w' gb122 x123000_1 x123001_1) ∧ Aside0 (Below w.heap.size w w'))
  case atStart => exact ⟨(([] : List (S44))), (a0), (0), H', ⟨Nat.le_refl _⟩, ⟨by first | exact Kd.S_nil _ _ _ _ _ | exact Kd.N_nil _ _ _ _ _ | exact Kd.V_nil _ _ _ _ _ | exact Kd.Q_nil _ _ _ _ _ | exact Kd.R_nil _ _ _ _ _⟩, ⟨by repeat (first | (with_reducible first | exact HI122.out | apply IsS51.alloc | apply IsS51.drewN | apply IsS51.drew | apply IsS51.set_0 | apply IsS51.set_1) | exact HI122.out)⟩, ⟨by repeat (first | (with_reducible first | exact HB.out | apply below_alloc | apply pw_below_drewN | apply below_drew1 | refine below_set ?_ (IsS51.ge HI122.out)) | exact HB.out)⟩⟩
  case round =>
   clear H'; try clear c1; try clear c2; try clear c2b0; try clear c2b1; try clear p2
   obtain ⟨x6_1, x123000_1, x123001_1, HA, HK1, HO_6, HI122, HB⟩ := hrel
   cases gk with
   | zero => exact absurd HA.out (by simp [lex_Scan.l0])
   | succ k1 =>
    have H := HA.out
    clear HA
    simp only [lex_Scan.l0] at H
    replace H := Option.bind_eq_some_iff.mp H
    obtain ⟨⟨t123, t124⟩, A40, H⟩ := H
    replace H : (if t124 ≥ (a0.size : Int) then (some (x6_1, 0, 0)) else (if (x6_1.length : Int) = 4000 then (some (([] : List (S44)), t124, 155)) else ((lex_scanner_token.f k1 t123 t124).bind fun bt125 => (if bt125.2.2.2.2.2.1 = 0 then (if x6_1.length < 2199023255552 then (lex_Scan.l0 k1 a0 (x6_1 ++ [(⟨bt125.1, bt125.2.1, bt125.2.2.1, bt125.2.2.2.1, bt125.2.2.2.2.1⟩ : S44)]) bt125.2.2.2.2.2.2.1 bt125.2.2.2.2.2.2.2) else (none)) else (some (([] : List (S44)), t124, bt125.2.2.2.2.2.1)))))) = some (r1, r2, r3) := H
    have A4 := qM A40
    clear A40
    by_cases c5 : t124 ≥ (a0.size : Int)
    ·
     rw [if_pos c5] at H
     have c5b0 : decide ((a0.size : Int) ≤ t124) = true := decide_eq_true c5
     clear c5
     simp only [Option.some.injEq, Prod.mk.injEq] at H
     obtain ⟨rfl, rfl, rfl⟩ := H
     go_wp2_with (first | ((with_reducible refine gate_callee (f := 19) rfl ?_); refine goesL_ (some 17) rfl rfl Tryd.func19 (by kernel_rfl) rfl #[.pointer (some ⟨gb122, 0, none⟩)] rfl (by (try simp only [List.map_toArray, List.map_cons, List.map_nil]); first | done | rfl | (simp only [List.length_drop, List.length_take]; rfl)) ?_; (with_reducible refine (lex_scanner_skip.calls k1 gb122 x123000_1 x123001_1 t123 t124 w _ ?side1 ?side2 A4.out).mono ?_); (case side1 => repeat (first | (with_reducible first | exact HI122.out | apply IsS51.alloc | apply IsS51.drewN | apply IsS51.drew | apply IsS51.set_0 | apply IsS51.set_1) | exact HI122.out)); (case side2 => repeat (first | (with_reducible first | exact HB.out | apply below_alloc | apply pw_below_drewN | apply below_drew1 | refine below_set ?_ (IsS51.ge HI122.out)) | exact HB.out)); rintro e w6 ⟨rfl, hi, hb, hk⟩; refine ⟨_, rfl, ?_⟩; have n0_ := qM (Kd.S_mono (Kd.S_keep (IsS51.apartS (show IsS51 w _ gb122 x123000_1 x123001_1 from by repeat (first | (with_reducible first | exact HI122.out | apply IsS51.alloc | apply IsS51.drewN | apply IsS51.drew | apply IsS51.set_0 | apply IsS51.set_1) | exact HI122.out)) (by (with_reducible repeat (first | apply Kd.S_alloc | apply Kd.S_drewN | apply Kd.S_drew)); exact HO_6.out) (by decide)) hk (fun _ h => h.2)) (fun _ h => h.1)); have n1_ := qM (hb); have n2_ := qM (hi); clear HO_6; clear HB; clear HI122; have HO_6 := n0_; have HB := n1_; have HI122 := n2_; clear n0_ n1_ n2_; (try clear hb); (try clear hb2); (try clear hk); (try clear hi); obtain ⟨HGz7, hgz7⟩ := HI122.out; have hcz7_0 := cellS51_0 HGz7; have hcz7_1 := cellS51_1 HGz7; have hfz7_0 := blk_frozen HGz7 0; have hfz7_1 := blk_frozen HGz7 1; clear HGz7 hgz7))
     go_ret3
     exact ⟨_, by first | rfl | (simp [errW_none, errW_some] <;> rfl) | (simp [*, errW_none, errW_some] <;> rfl), by (with_reducible repeat (first | apply Kd.S_alloc | apply Kd.S_drewN | apply Kd.S_drew)); exact HO_6.out, by repeat (first | (with_reducible first | exact HB.out | apply below_alloc | apply pw_below_drewN | apply below_drew1 | refine below_set ?_ (IsS51.ge HI122.out)) | exact HB.out)⟩
    ·
     rw [if_neg c5] at H
     have c5b0 : decide ((a0.size : Int) ≤ t124) = false := decide_eq_false c5
     clear c5
     by_cases c8 : (x6_1.length : Int) = 4000
     ·
      rw [if_pos c8] at H
      have c8b0 : ((x6_1.length : Int) == 4000) = true := beq_iff_eq.mpr c8
      have c8b1 : ((x6_1.length : Int) != 4000) = false := bne_eq_false_iff_eq.mpr c8
      clear c8
      simp only [Option.some.injEq, Prod.mk.injEq] at H
      obtain ⟨rfl, rfl, rfl⟩ := H
      go_wp2_with (first | ((with_reducible refine gate_callee (f := 19) rfl ?_); refine goesL_ (some 17) rfl rfl Tryd.func19 (by kernel_rfl) rfl #[.pointer (some ⟨gb122, 0, none⟩)] rfl (by (try simp only [List.map_toArray, List.map_cons, List.map_nil]); first | done | rfl | (simp only [List.length_drop, List.length_take]; rfl)) ?_; (with_reducible refine (lex_scanner_skip.calls k1 gb122 x123000_1 x123001_1 t123 t124 w _ ?side1 ?side2 A4.out).mono ?_); (case side1 => repeat (first | (with_reducible first | exact HI122.out | apply IsS51.alloc | apply IsS51.drewN | apply IsS51.drew | apply IsS51.set_0 | apply IsS51.set_1) | exact HI122.out)); (case side2 => repeat (first | (with_reducible first | exact HB.out | apply below_alloc | apply pw_below_drewN | apply below_drew1 | refine below_set ?_ (IsS51.ge HI122.out)) | exact HB.out)); rintro e w9 ⟨rfl, hi, hb, hk⟩; refine ⟨_, rfl, ?_⟩; have n0_ := qM (Kd.S_mono (Kd.S_keep (IsS51.apartS (show IsS51 w _ gb122 x123000_1 x123001_1 from by repeat (first | (with_reducible first | exact HI122.out | apply IsS51.alloc | apply IsS51.drewN | apply IsS51.drew | apply IsS51.set_0 | apply IsS51.set_1) | exact HI122.out)) (by (with_reducible repeat (first | apply Kd.S_alloc | apply Kd.S_drewN | apply Kd.S_drew)); exact HO_6.out) (by decide)) hk (fun _ h => h.2)) (fun _ h => h.1)); have n1_ := qM (hb); have n2_ := qM (hi); clear HO_6; clear HB; clear HI122; have HO_6 := n0_; have HB := n1_; have HI122 := n2_; clear n0_ n1_ n2_; (try clear hb); (try clear hb2); (try clear hk); (try clear hi); obtain ⟨HGz10, hgz10⟩ := HI122.out; have hcz10_0 := cellS51_0 HGz10; have hcz10_1 := cellS51_1 HGz10; have hfz10_0 := blk_frozen HGz10 0; have hfz10_1 := blk_frozen HGz10 1; clear HGz10 hgz10; obtain ⟨Ao11, co11, eo11⟩ := Kd.S_slice HO_6.out; subst eo11))
      go_ret3
      exact ⟨_, by first | rfl | (simp [errW_none, errW_some] <;> rfl) | (simp [*, errW_none, errW_some] <;> rfl), by first | exact Kd.S_nil _ _ _ _ _ | exact Kd.N_nil _ _ _ _ _ | exact Kd.V_nil _ _ _ _ _ | exact Kd.Q_nil _ _ _ _ _ | exact Kd.R_nil _ _ _ _ _, by repeat (first | (with_reducible first | exact HB.out | apply below_alloc | apply pw_below_drewN | apply below_drew1 | refine below_set ?_ (IsS51.ge HI122.out)) | exact HB.out)⟩
     ·
      rw [if_neg c8] at H
      have c8b0 : ((x6_1.length : Int) == 4000) = false := beq_eq_false_iff_ne.mpr c8
      have c8b1 : ((x6_1.length : Int) != 4000) = true := bne_iff_ne.mpr c8
      replace H := Option.bind_eq_some_iff.mp H
      obtain ⟨⟨t125, t126, t127, t128, t131, t132, t133, t134⟩, A120, H⟩ := H
      replace H : (if t132 = 0 then (if x6_1.length < 2199023255552 then (lex_Scan.l0 k1 a0 (x6_1 ++ [(⟨t125, t126, t127, t128, t131⟩ : S44)]) t133 t134) else (none)) else (some (([] : List (S44)), t124, t132))) = some (r1, r2, r3) := H
      have A12 := qM A120
      clear A120
      by_cases c13 : t132 = 0
      ·
       rw [if_pos c13] at H
       have c13b0 : (t132 == 0) = true := beq_iff_eq.mpr c13
       have c13b1 : (t132 != 0) = false := bne_eq_false_iff_eq.mpr c13
       clear c13
       by_cases c14 : x6_1.length < 2199023255552
       ·
        rw [if_pos c14] at H
        have LMc14 := qM c14
        clear c14
        obtain ⟨y136, hy136⟩ : ∃ y_ : List (S44), y_ = (x6_1 ++ [(⟨t125, t126, t127, t128, t131⟩ : S44)]) := ⟨_, rfl⟩
        replace H : (lex_Scan.l0 k1 a0 y136 t133 t134) = some (r1, r2, r3) := by first | (rw [hy136]; with_reducible exact H) | (have H2_ := (Option.bind_some _ _).symm.trans H; rw [hy136]; with_reducible exact H2_) | (have H2_ := (Option.bind_some _ _).symm.trans H; with_reducible exact H2_) | with_reducible exact H | (rw [hy136]; exact H) | exact H
        have Ny136 := qM hy136
        clear hy136
        have H' := qM H
        clear H
        go_wp2_with (first | ((with_reducible refine gate_callee (f := 19) rfl ?_); refine goesL_ (some 17) rfl rfl Tryd.func19 (by kernel_rfl) rfl #[.pointer (some ⟨gb122, 0, none⟩)] rfl (by (try simp only [List.map_toArray, List.map_cons, List.map_nil]); first | done | rfl | (simp only [List.length_drop, List.length_take]; rfl)) ?_; (with_reducible refine (lex_scanner_skip.calls k1 gb122 x123000_1 x123001_1 t123 t124 w _ ?side1 ?side2 A4.out).mono ?_); (case side1 => repeat (first | (with_reducible first | exact HI122.out | apply IsS51.alloc | apply IsS51.drewN | apply IsS51.drew | apply IsS51.set_0 | apply IsS51.set_1) | exact HI122.out)); (case side2 => repeat (first | (with_reducible first | exact HB.out | apply below_alloc | apply pw_below_drewN | apply below_drew1 | refine below_set ?_ (IsS51.ge HI122.out)) | exact HB.out)); rintro e w15 ⟨rfl, hi, hb, hk⟩; refine ⟨_, rfl, ?_⟩; have n0_ := qM (Kd.S_mono (Kd.S_keep (IsS51.apartS (show IsS51 w _ gb122 x123000_1 x123001_1 from by repeat (first | (with_reducible first | exact HI122.out | apply IsS51.alloc | apply IsS51.drewN | apply IsS51.drew | apply IsS51.set_0 | apply IsS51.set_1) | exact HI122.out)) (by (with_reducible repeat (first | apply Kd.S_alloc | apply Kd.S_drewN | apply Kd.S_drew)); exact HO_6.out) (by decide)) hk (fun _ h => h.2)) (fun _ h => h.1)); have n1_ := qM (hb); have n2_ := qM (hi); clear HO_6; clear HB; clear HI122; have HO_6 := n0_; have HB := n1_; have HI122 := n2_; clear n0_ n1_ n2_; (try clear hb); (try clear hb2); (try clear hk); (try clear hi); obtain ⟨HGz16, hgz16⟩ := HI122.out; have hcz16_0 := cellS51_0 HGz16; have hcz16_1 := cellS51_1 HGz16; have hfz16_0 := blk_frozen HGz16 0; have hfz16_1 := blk_frozen HGz16 1; clear HGz16 hgz16; obtain ⟨Ao17, co17, eo17⟩ := Kd.S_slice HO_6.out; subst eo17) | ((with_reducible refine gate_callee (f := 20) rfl ?_); refine goesL_ (some 36) rfl rfl Tryd.func20 (by kernel_rfl) rfl #[.pointer (some ⟨gb122, 0, none⟩)] rfl (by (try simp only [List.map_toArray, List.map_cons, List.map_nil]); first | done | rfl | (simp only [List.length_drop, List.length_take]; rfl)) ?_; (with_reducible refine (lex_scanner_token.calls k1 gb122 t123 t124 t125 t126 t127 t128 t131 t132 t133 t134 w _ ?side1 ?side2 ?side3 A12.out).mono ?_); (case side1 => repeat (first | (with_reducible first | exact HI122.out | apply IsS51.alloc | apply IsS51.drewN | apply IsS51.drew | apply IsS51.set_0 | apply IsS51.set_1) | exact HI122.out)); (case side2 => repeat (first | (with_reducible first | exact HB.out | apply below_alloc | apply pw_below_drewN | apply below_drew1 | refine below_set ?_ (IsS51.ge HI122.out)) | exact HB.out)); (case side3 => first | exact hG | exact hG.drewN _ | exact hG.drew | exact hG.below (by repeat (first | (with_reducible first | exact HB.out | apply below_alloc | apply pw_below_drewN | apply below_drew1 | refine below_set ?_ (IsS51.ge HI122.out)) | exact HB.out)) | (refine hG.below ?_; (repeat (first | (with_reducible exact Below.refl _ _) | (with_reducible refine pw_below_drewN ?_ _) | (with_reducible refine below_drew ?_) | (with_reducible refine below_alloc ?_ _))))); rintro e w18 ⟨v129, rfl, ho0, hi, hb, hk⟩; refine ⟨_, rfl, ?_⟩; have n0_ := qM (Kd.S_mono (Kd.S_told (Kd.S_oldK (IsS51.apartS (show IsS51 w _ gb122 t123 t124 from by repeat (first | (with_reducible first | exact HI122.out | apply IsS51.alloc | apply IsS51.drewN | apply IsS51.drew | apply IsS51.set_0 | apply IsS51.set_1) | exact HI122.out)) (by (with_reducible repeat (first | apply Kd.S_alloc | apply Kd.S_drewN | apply Kd.S_drew)); exact HO_6.out) (by decide)) hk) (Kd.R_base ho0)) (fun _ h_ => h_.1)); have n1_ := qM (Kd.R_lower ho0 (below_size (by repeat (first | (with_reducible first | exact HB.out | apply below_alloc | apply pw_below_drewN | apply below_drew1 | refine below_set ?_ (IsS51.ge HI122.out)) | exact HB.out)))); have n2_ := qM (hb); have n3_ := qM (hi); clear HO_6; clear HB; clear HI122; have HO_6 := n0_; have HO130 := n1_; have HB := n2_; have HI122 := n3_; clear n0_ n1_ n2_ n3_; (try clear hb); (try clear hb2); (try clear hk); (try clear hi); (try clear ho0)) | ((with_reducible refine gate_dst (N := 8) rfl ?_); refine box_event ?hg (N := 8) ?hd (cs := #[.int .i64 0, .string (⟨#[]⟩ : ByteArray), .int .i64 0, .slice none 0 0, .int .i64 0]) (t := 44) ?hr ?_; (case hd => rfl); (case hg => rfl); (case hr => first | (go_simp; done) | (go_simp; rfl)); intro gb135 hg w19 hbox hb; have n0_ := qM (Kd.S_below (Kd.S_elderB (by (with_reducible repeat (first | apply Kd.S_alloc | apply Kd.S_drewN | apply Kd.S_drew)); exact HO_6.out) gb135 (Nat.le_of_eq hg.symm)) hb); have n1_ := qM (Kd.R_below (qR HO130.out) hb); have n2_ := qM (IsS51.below (by repeat (first | (with_reducible first | exact HI122.out | apply IsS51.alloc | apply IsS51.drewN | apply IsS51.drew | apply IsS51.set_0 | apply IsS51.set_1) | exact HI122.out)) hb); have n3_ := qM (below_step (by repeat (first | (with_reducible first | exact HB.out | apply below_alloc | apply pw_below_drewN | apply below_drew1 | refine below_set ?_ (IsS51.ge HI122.out)) | exact HB.out)) hb); have n4_ := qM (hbox); have n5_ := qM ((by rw [hg]; exact (below_size (by repeat (first | (with_reducible first | exact HB.out | apply below_alloc | apply pw_below_drewN | apply below_drew1 | refine below_set ?_ (IsS51.ge HI122.out)) | exact HB.out))) : w.heap.size ≤ gb135)); have n6_ := qM ((by rw [hg]; exact (below_size (by repeat (first | (with_reducible first | exact HB.out | apply below_alloc | apply pw_below_drewN | apply below_drew1 | refine below_set ?_ (IsS51.ge HI122.out)) | exact HB.out))) : w.heap.size ≤ gb135)); have n7_ := qM ((by rw [hg]; exact Nat.ne_of_lt (IsS51.lt (show IsS51 w _ gb122 t133 t134 from by repeat (first | (with_reducible first | exact HI122.out | apply IsS51.alloc | apply IsS51.drewN | apply IsS51.drew | apply IsS51.set_0 | apply IsS51.set_1) | exact HI122.out))) : gb122 ≠ gb135)); have n8_ := qM ((by rw [hg]; exact Nat.ne_of_gt (IsS51.lt (show IsS51 w _ gb122 t133 t134 from by repeat (first | (with_reducible first | exact HI122.out | apply IsS51.alloc | apply IsS51.drewN | apply IsS51.drew | apply IsS51.set_0 | apply IsS51.set_1) | exact HI122.out))) : gb135 ≠ gb122)); clear HO_6; clear HO130; clear HI122; clear HB; have HO_6 := n0_; have HO130 := n1_; have HI122 := n2_; have HB := n3_; have BK135 := n4_; have GW135 := n5_; have GE135 := n6_; have NB122_135 := n7_; have NB135_122 := n8_; clear n0_ n1_ n2_ n3_ n4_ n5_ n6_ n7_ n8_; clear hb hbox hg; have hnb20 := NB135_122.out; have hnc20 := NB122_135.out; have hcz21_0 : w19.cell? ⟨gb135, 0, none⟩ = some (.int .i64 0) := (blk_cell BK135.out 0).trans rfl; have hcz21_1 : w19.cell? ⟨gb135, 1, none⟩ = some (.string (⟨#[]⟩ : ByteArray)) := (blk_cell BK135.out 1).trans rfl; have hcz21_2 : w19.cell? ⟨gb135, 2, none⟩ = some (.int .i64 0) := (blk_cell BK135.out 2).trans rfl; have hcz21_3 : w19.cell? ⟨gb135, 3, none⟩ = some (.slice none 0 0) := (blk_cell BK135.out 3).trans rfl; have hcz21_4 : w19.cell? ⟨gb135, 4, none⟩ = some (.int .i64 0) := (blk_cell BK135.out 4).trans rfl; have hfz21_0 := blk_frozen BK135.out 0; have hfz21_1 := blk_frozen BK135.out 1; have hfz21_2 := blk_frozen BK135.out 2; have hfz21_3 := blk_frozen BK135.out 3; have hfz21_4 := blk_frozen BK135.out 4; obtain ⟨Ao22, co22, eo22⟩ := Kd.R_slice HO130.out; subst eo22) | ((with_reducible refine gate_store (t := 44) (p := 8) rfl ?_); refine store_event (t := 44) (p := 8) (v := ?vo_w23) (w1 := (((((w19.setCell ⟨gb135, 0, none⟩ (.int .i64 t125)).setCell ⟨gb135, 1, none⟩ (.string t126)).setCell ⟨gb135, 2, none⟩ (.int .i64 t127)).setCell ⟨gb135, 3, none⟩ (.slice Ao22 t128.length co22)).setCell ⟨gb135, 4, none⟩ (.int .i64 t131))) ?hg ?ho ?hn ?hr ?_; (case ho => rfl); (case hg => rfl); (case hn => rfl); (case hr => first | (go_simp; done) | (go_simp; rfl)); intro w23 hw; have n0_ : Aside0 (Kd.S k44 44 w23 w.heap.size (fun k_ => some k_ ≠ (.slice Ao22 t128.length co22 : Value).ownBlock ∧ k_ ≠ gb135) (.slice Ao17 x6_1.length co17) x6_1) := ⟨(by rw [hw]; exact (by (with_reducible repeat (first | apply Kd.S_alloc | apply Kd.S_drewN | apply Kd.S_drew)); exact Kd.S_mono (Kd.S_far (p := ⟨gb135, 4, none⟩) (Kd.S_far (p := ⟨gb135, 3, none⟩) (Kd.S_far (p := ⟨gb135, 2, none⟩) (Kd.S_far (p := ⟨gb135, 1, none⟩) (Kd.S_far (p := ⟨gb135, 0, none⟩) (Kd.S_mono HO_6.out (fun k_ hk => (⟨hk, hk.2⟩ : _ ∧ k_ ≠ gb135))) (fun _ hk => hk.2) (.int .i64 t125)) (fun _ hk => hk.2) (.string t126)) (fun _ hk => hk.2) (.int .i64 t127)) (fun _ hk => hk.2) (.slice Ao22 t128.length co22)) (fun _ hk => hk.2) (.int .i64 t131)) (fun _ hk => ⟨hk.1.1.2, hk.1.2⟩)))⟩; have n1_ : Aside0 (Kd.R (Kd.int .u8) 5 w23 w.heap.size (fun _ => True) (.slice Ao22 t128.length co22) t128) := ⟨(by rw [hw]; exact (by (with_reducible repeat (first | apply Kd.R_alloc | apply Kd.R_drewN | apply Kd.R_drew)); exact Kd.R_mono (Kd.R_far (p := ⟨gb135, 4, none⟩) (Kd.R_far (p := ⟨gb135, 3, none⟩) (Kd.R_far (p := ⟨gb135, 2, none⟩) (Kd.R_far (p := ⟨gb135, 1, none⟩) (Kd.R_far (p := ⟨gb135, 0, none⟩) (Kd.R_types HO130.out BK135.out (by decide)) (fun _ hk => hk.2) (.int .i64 t125)) (fun _ hk => hk.2) (.string t126)) (fun _ hk => hk.2) (.int .i64 t127)) (fun _ hk => hk.2) (.slice Ao22 t128.length co22)) (fun _ hk => hk.2) (.int .i64 t131)) (fun _ hk => trivial)))⟩; have n2_ : Aside0 (w23.heap[gb135]? = some (.cells #[.int .i64 t125, .string t126, .int .i64 t127, .slice Ao22 t128.length co22, .int .i64 t131] 44 (0, 0))) := ⟨(by rw [hw]; exact (by (with_reducible repeat (first | refine blk_drewN ?_ _ | refine blk_drew ?_ | refine blk_alloc ?_ _)); refine blk_put (cs := #[.int .i64 t125, .string t126, .int .i64 t127, .slice Ao22 t128.length co22, .int .i64 0]) ?_ 4 _ rfl; (with_reducible repeat (first | refine blk_drewN ?_ _ | refine blk_drew ?_ | refine blk_alloc ?_ _)); refine blk_put (cs := #[.int .i64 t125, .string t126, .int .i64 t127, .slice none 0 0, .int .i64 0]) ?_ 3 _ rfl; (with_reducible repeat (first | refine blk_drewN ?_ _ | refine blk_drew ?_ | refine blk_alloc ?_ _)); refine blk_put (cs := #[.int .i64 t125, .string t126, .int .i64 0, .slice none 0 0, .int .i64 0]) ?_ 2 _ rfl; (with_reducible repeat (first | refine blk_drewN ?_ _ | refine blk_drew ?_ | refine blk_alloc ?_ _)); refine blk_put (cs := #[.int .i64 t125, .string (⟨#[]⟩ : ByteArray), .int .i64 0, .slice none 0 0, .int .i64 0]) ?_ 1 _ rfl; (with_reducible repeat (first | refine blk_drewN ?_ _ | refine blk_drew ?_ | refine blk_alloc ?_ _)); refine blk_put (cs := #[.int .i64 0, .string (⟨#[]⟩ : ByteArray), .int .i64 0, .slice none 0 0, .int .i64 0]) ?_ 0 _ rfl; (with_reducible repeat (first | refine blk_drewN ?_ _ | refine blk_drew ?_ | refine blk_alloc ?_ _)); exact BK135.out))⟩; have n3_ : Aside0 (IsS51 w w23 gb122 t133 t134) := ⟨(by rw [hw]; exact (by repeat (first | (with_reducible first | exact HI122.out | apply IsS51.alloc | apply IsS51.drewN | apply IsS51.drew | apply IsS51.set_0 | apply IsS51.set_1 | refine IsS51.far ?_ NB122_135.out _) | exact HI122.out)))⟩; have n4_ : Aside0 (Below w.heap.size w w23) := ⟨(by rw [hw]; exact (by repeat (first | (with_reducible first | exact HB.out | apply below_alloc | apply pw_below_drewN | apply below_drew1 | refine below_set ?_ (IsS51.ge HI122.out) | refine below_set ?_ GE135.out) | exact HB.out)))⟩; clear hw; clear HO_6; clear HO130; clear BK135; clear HI122; clear HB; have HO_6 := n0_; have HO130 := n1_; have BK135 := n2_; have HI122 := n3_; have HB := n4_; clear n0_ n1_ n2_ n3_ n4_; have hcz24_0 : w23.cell? ⟨gb135, 0, none⟩ = some (.int .i64 t125) := (blk_cell BK135.out 0).trans rfl; have hcz24_1 : w23.cell? ⟨gb135, 1, none⟩ = some (.string t126) := (blk_cell BK135.out 1).trans rfl; have hcz24_2 : w23.cell? ⟨gb135, 2, none⟩ = some (.int .i64 t127) := (blk_cell BK135.out 2).trans rfl; have hcz24_3 : w23.cell? ⟨gb135, 3, none⟩ = some (.slice Ao22 t128.length co22) := (blk_cell BK135.out 3).trans rfl; have hcz24_4 : w23.cell? ⟨gb135, 4, none⟩ = some (.int .i64 t131) := (blk_cell BK135.out 4).trans rfl; have hfz24_0 := blk_frozen BK135.out 0; have hfz24_1 := blk_frozen BK135.out 1; have hfz24_2 := blk_frozen BK135.out 2; have hfz24_3 := blk_frozen BK135.out 3; have hfz24_4 := blk_frozen BK135.out 4) | ((with_reducible refine gate_builtin (b := .append) (xs := #[.tmp 43, .tmp 45]) rfl ?_); at_builtin; refine Kd.S_append k44 (w0 := w) w.heap.size rfl (.tmp 43) (.tmp 45) 38 44 (.agg #[(.int .i64 0), (.string ⟨#[]⟩), (.int .i64 0), (.slice none 0 0), (.int .i64 0)]) 64 rfl Tryd.underlying38 info44 rfl (by decide) (by omega) (.slice Ao17 x6_1.length co17) x6_1 (⟨t125, t126, t127, t128, t131⟩ : S44) [.int .i64 t125, .string t126, .int .i64 t127, .slice Ao22 t128.length co22, .int .i64 t131] (fun k_ => k_ ≠ gb135) (fun k_ => some k_ = (.slice Ao22 t128.length co22 : Value).ownBlock) rfl rfl ?aP (fun k_ hk_ => ((Kd.R_mono (ok' := fun k_ => ((fun k_ => k_ ≠ gb135)) k_ ∧ some k_ ≠ (.slice Ao17 x6_1.length co17 : Value).ownBlock) (Kd.R_types (Kd.R_apart' (HO130.out) (Kd.S_typed HO_6.out) (by decide)) BK135.out (by decide)) (fun k_ hk => ⟨hk.2, hk.1.2⟩))).1 k_ hk_.symm) ?aF ?aO ?aB ?aS ?aL ?_; (case aP => exact k44_mkM _ _ _ (⟨t125, t126, t127, t128, t131⟩ : S44) (Kd.R_mono (Kd.R_tight rfl (Kd.R_mono (ok' := fun k_ => ((fun k_ => k_ ≠ gb135)) k_ ∧ some k_ ≠ (.slice Ao17 x6_1.length co17 : Value).ownBlock) (Kd.R_types (Kd.R_apart' (HO130.out) (Kd.S_typed HO_6.out) (by decide)) BK135.out (by decide)) (fun k_ hk => ⟨hk.2, hk.1.2⟩))) (fun _ h_ => h_))); (case aB => exact (by repeat (first | (with_reducible first | exact HB.out | apply below_alloc | apply pw_below_drewN | apply below_drew1 | refine below_set ?_ (IsS51.ge HI122.out) | refine below_set ?_ GE135.out) | exact HB.out))); (case aF => exact (fun k_ hk => Kd.freshB (g := gb135) (o := .cells #[.int .i64 t125, .string t126, .int .i64 t127, .slice Ao22 t128.length co22, .int .i64 t131] 44 (0, 0)) (qK BK135.out) k_ hk)); (case aO => exact (by (with_reducible repeat (first | apply Kd.S_alloc | apply Kd.S_drewN | apply Kd.S_drew)); exact Kd.S_mono HO_6.out (fun k_ hk => ⟨hk.2, fun e_ => hk.1 e_⟩))); (case aS => exact (below_size (by repeat (first | (with_reducible first | exact HB.out | apply below_alloc | apply pw_below_drewN | apply below_drew1 | refine below_set ?_ (IsS51.ge HI122.out) | refine below_set ?_ GE135.out) | exact HB.out)))); (case aL => have := LMc14.out; omega); intro v137 w25 ho hb hg hat; rw [← Ny136.out] at ho; have n0_ := qM (IsS51.grown (by repeat (first | (with_reducible first | exact HI122.out | apply IsS51.alloc | apply IsS51.drewN | apply IsS51.drew | apply IsS51.set_0 | apply IsS51.set_1 | refine IsS51.far ?_ NB122_135.out _) | exact HI122.out)) hg (IsS51.own_neS HI122.out HO_6.out (by decide))); have n1_ := qM (blk_grown (g := gb135) (o := .cells #[.int .i64 t125, .string t126, .int .i64 t127, .slice Ao22 t128.length co22, .int .i64 t131] 44 (0, 0)) (qK BK135.out) hg (Kd.S_away HO_6.out (fun _ hk => hk.2))); have n2_ := qM (hb); have n3_ := qM (ho); clear HI122; clear BK135; clear HB; clear HO_6; clear HO130; have HI122 := n0_; have BK135 := n1_; have HB := n2_; have HO138 := n3_; clear n0_ n1_ n2_ n3_; clear ho hb hg hat))
        go_roundg k1
        case measure => have := HK1.out; omega
        case rel => exact ⟨(y136), (t133), (t134), H', ⟨by have := HK1.out; omega⟩, ⟨by (with_reducible repeat (first | apply Kd.S_alloc | apply Kd.S_drewN | apply Kd.S_drew)); exact Kd.S_mono HO138.out (fun _ hk => trivial)⟩, ⟨by repeat (first | (with_reducible first | exact HI122.out | apply IsS51.alloc | apply IsS51.drewN | apply IsS51.drew | apply IsS51.set_0 | apply IsS51.set_1 | refine IsS51.far ?_ NB122_135.out _) | exact HI122.out)⟩, ⟨by repeat (first | (with_reducible first | exact HB.out | apply below_alloc | apply pw_below_drewN | apply below_drew1 | refine below_set ?_ (IsS51.ge HI122.out) | refine below_set ?_ GE135.out) | exact HB.out)⟩⟩
       ·
        rw [if_neg c14] at H
        exact absurd H (by simp)
      ·
       rw [if_neg c13] at H
       have c13b0 : (t132 == 0) = false := beq_eq_false_iff_ne.mpr c13
       have c13b1 : (t132 != 0) = true := bne_iff_ne.mpr c13
       simp only [Option.some.injEq, Prod.mk.injEq] at H
       obtain ⟨rfl, rfl, rfl⟩ := H
       go_wp2_with (first | ((with_reducible refine gate_callee (f := 19) rfl ?_); refine goesL_ (some 17) rfl rfl Tryd.func19 (by kernel_rfl) rfl #[.pointer (some ⟨gb122, 0, none⟩)] rfl (by (try simp only [List.map_toArray, List.map_cons, List.map_nil]); first | done | rfl | (simp only [List.length_drop, List.length_take]; rfl)) ?_; (with_reducible refine (lex_scanner_skip.calls k1 gb122 x123000_1 x123001_1 t123 t124 w _ ?side1 ?side2 A4.out).mono ?_); (case side1 => repeat (first | (with_reducible first | exact HI122.out | apply IsS51.alloc | apply IsS51.drewN | apply IsS51.drew | apply IsS51.set_0 | apply IsS51.set_1) | exact HI122.out)); (case side2 => repeat (first | (with_reducible first | exact HB.out | apply below_alloc | apply pw_below_drewN | apply below_drew1 | refine below_set ?_ (IsS51.ge HI122.out)) | exact HB.out)); rintro e w26 ⟨rfl, hi, hb, hk⟩; refine ⟨_, rfl, ?_⟩; have n0_ := qM (Kd.S_mono (Kd.S_keep (IsS51.apartS (show IsS51 w _ gb122 x123000_1 x123001_1 from by repeat (first | (with_reducible first | exact HI122.out | apply IsS51.alloc | apply IsS51.drewN | apply IsS51.drew | apply IsS51.set_0 | apply IsS51.set_1) | exact HI122.out)) (by (with_reducible repeat (first | apply Kd.S_alloc | apply Kd.S_drewN | apply Kd.S_drew)); exact HO_6.out) (by decide)) hk (fun _ h => h.2)) (fun _ h => h.1)); have n1_ := qM (hb); have n2_ := qM (hi); clear HO_6; clear HB; clear HI122; have HO_6 := n0_; have HB := n1_; have HI122 := n2_; clear n0_ n1_ n2_; (try clear hb); (try clear hb2); (try clear hk); (try clear hi); obtain ⟨HGz27, hgz27⟩ := HI122.out; have hcz27_0 := cellS51_0 HGz27; have hcz27_1 := cellS51_1 HGz27; have hfz27_0 := blk_frozen HGz27 0; have hfz27_1 := blk_frozen HGz27 1; clear HGz27 hgz27; obtain ⟨Ao28, co28, eo28⟩ := Kd.S_slice HO_6.out; subst eo28) | ((with_reducible refine gate_callee (f := 20) rfl ?_); refine goesL_ (some 36) rfl rfl Tryd.func20 (by kernel_rfl) rfl #[.pointer (some ⟨gb122, 0, none⟩)] rfl (by (try simp only [List.map_toArray, List.map_cons, List.map_nil]); first | done | rfl | (simp only [List.length_drop, List.length_take]; rfl)) ?_; (with_reducible refine (lex_scanner_token.calls k1 gb122 t123 t124 t125 t126 t127 t128 t131 t132 t133 t134 w _ ?side1 ?side2 ?side3 A12.out).mono ?_); (case side1 => repeat (first | (with_reducible first | exact HI122.out | apply IsS51.alloc | apply IsS51.drewN | apply IsS51.drew | apply IsS51.set_0 | apply IsS51.set_1) | exact HI122.out)); (case side2 => repeat (first | (with_reducible first | exact HB.out | apply below_alloc | apply pw_below_drewN | apply below_drew1 | refine below_set ?_ (IsS51.ge HI122.out)) | exact HB.out)); (case side3 => first | exact hG | exact hG.drewN _ | exact hG.drew | exact hG.below (by repeat (first | (with_reducible first | exact HB.out | apply below_alloc | apply pw_below_drewN | apply below_drew1 | refine below_set ?_ (IsS51.ge HI122.out)) | exact HB.out)) | (refine hG.below ?_; (repeat (first | (with_reducible exact Below.refl _ _) | (with_reducible refine pw_below_drewN ?_ _) | (with_reducible refine below_drew ?_) | (with_reducible refine below_alloc ?_ _))))); rintro e w29 ⟨v129, rfl, ho0, hi, hb, hk⟩; refine ⟨_, rfl, ?_⟩; have n0_ := qM (Kd.S_mono (Kd.S_told (Kd.S_oldK (IsS51.apartS (show IsS51 w _ gb122 t123 t124 from by repeat (first | (with_reducible first | exact HI122.out | apply IsS51.alloc | apply IsS51.drewN | apply IsS51.drew | apply IsS51.set_0 | apply IsS51.set_1) | exact HI122.out)) (by (with_reducible repeat (first | apply Kd.S_alloc | apply Kd.S_drewN | apply Kd.S_drew)); exact HO_6.out) (by decide)) hk) (Kd.R_base ho0)) (fun _ h_ => h_.1)); have n1_ := qM (Kd.R_lower ho0 (below_size (by repeat (first | (with_reducible first | exact HB.out | apply below_alloc | apply pw_below_drewN | apply below_drew1 | refine below_set ?_ (IsS51.ge HI122.out)) | exact HB.out)))); have n2_ := qM (hb); have n3_ := qM (hi); clear HO_6; clear HB; clear HI122; have HO_6 := n0_; have HO130 := n1_; have HB := n2_; have HI122 := n3_; clear n0_ n1_ n2_ n3_; (try clear hb); (try clear hb2); (try clear hk); (try clear hi); (try clear ho0)) | ((with_reducible refine gate_dst (N := 8) rfl ?_); refine box_event ?hg (N := 8) ?hd (cs := #[.int .i64 0, .string (⟨#[]⟩ : ByteArray), .int .i64 0, .slice none 0 0, .int .i64 0]) (t := 44) ?hr ?_; (case hd => rfl); (case hg => rfl); (case hr => first | (go_simp; done) | (go_simp; rfl)); intro gb135 hg w30 hbox hb; have n0_ := qM (Kd.S_below (Kd.S_elderB (by (with_reducible repeat (first | apply Kd.S_alloc | apply Kd.S_drewN | apply Kd.S_drew)); exact HO_6.out) gb135 (Nat.le_of_eq hg.symm)) hb); have n1_ := qM (Kd.R_below (qR HO130.out) hb); have n2_ := qM (IsS51.below (by repeat (first | (with_reducible first | exact HI122.out | apply IsS51.alloc | apply IsS51.drewN | apply IsS51.drew | apply IsS51.set_0 | apply IsS51.set_1) | exact HI122.out)) hb); have n3_ := qM (below_step (by repeat (first | (with_reducible first | exact HB.out | apply below_alloc | apply pw_below_drewN | apply below_drew1 | refine below_set ?_ (IsS51.ge HI122.out)) | exact HB.out)) hb); have n4_ := qM (hbox); have n5_ := qM ((by rw [hg]; exact (below_size (by repeat (first | (with_reducible first | exact HB.out | apply below_alloc | apply pw_below_drewN | apply below_drew1 | refine below_set ?_ (IsS51.ge HI122.out)) | exact HB.out))) : w.heap.size ≤ gb135)); have n6_ := qM ((by rw [hg]; exact (below_size (by repeat (first | (with_reducible first | exact HB.out | apply below_alloc | apply pw_below_drewN | apply below_drew1 | refine below_set ?_ (IsS51.ge HI122.out)) | exact HB.out))) : w.heap.size ≤ gb135)); have n7_ := qM ((by rw [hg]; exact Nat.ne_of_lt (IsS51.lt (show IsS51 w _ gb122 t133 t134 from by repeat (first | (with_reducible first | exact HI122.out | apply IsS51.alloc | apply IsS51.drewN | apply IsS51.drew | apply IsS51.set_0 | apply IsS51.set_1) | exact HI122.out))) : gb122 ≠ gb135)); have n8_ := qM ((by rw [hg]; exact Nat.ne_of_gt (IsS51.lt (show IsS51 w _ gb122 t133 t134 from by repeat (first | (with_reducible first | exact HI122.out | apply IsS51.alloc | apply IsS51.drewN | apply IsS51.drew | apply IsS51.set_0 | apply IsS51.set_1) | exact HI122.out))) : gb135 ≠ gb122)); clear HO_6; clear HO130; clear HI122; clear HB; have HO_6 := n0_; have HO130 := n1_; have HI122 := n2_; have HB := n3_; have BK135 := n4_; have GW135 := n5_; have GE135 := n6_; have NB122_135 := n7_; have NB135_122 := n8_; clear n0_ n1_ n2_ n3_ n4_ n5_ n6_ n7_ n8_; clear hb hbox hg; have hnb31 := NB135_122.out; have hnc31 := NB122_135.out; have hcz32_0 : w30.cell? ⟨gb135, 0, none⟩ = some (.int .i64 0) := (blk_cell BK135.out 0).trans rfl; have hcz32_1 : w30.cell? ⟨gb135, 1, none⟩ = some (.string (⟨#[]⟩ : ByteArray)) := (blk_cell BK135.out 1).trans rfl; have hcz32_2 : w30.cell? ⟨gb135, 2, none⟩ = some (.int .i64 0) := (blk_cell BK135.out 2).trans rfl; have hcz32_3 : w30.cell? ⟨gb135, 3, none⟩ = some (.slice none 0 0) := (blk_cell BK135.out 3).trans rfl; have hcz32_4 : w30.cell? ⟨gb135, 4, none⟩ = some (.int .i64 0) := (blk_cell BK135.out 4).trans rfl; have hfz32_0 := blk_frozen BK135.out 0; have hfz32_1 := blk_frozen BK135.out 1; have hfz32_2 := blk_frozen BK135.out 2; have hfz32_3 := blk_frozen BK135.out 3; have hfz32_4 := blk_frozen BK135.out 4; obtain ⟨Ao33, co33, eo33⟩ := Kd.R_slice HO130.out; subst eo33))
       go_ret3
       exact ⟨_, by first | rfl | (simp [errW_none, errW_some] <;> rfl) | (simp [*, errW_none, errW_some] <;> rfl), by first | exact Kd.S_nil _ _ _ _ _ | exact Kd.N_nil _ _ _ _ _ | exact Kd.V_nil _ _ _ _ _ | exact Kd.Q_nil _ _ _ _ _ | exact Kd.R_nil _ _ _ _ _, by repeat (first | (with_reducible first | exact HB.out | apply below_alloc | apply pw_below_drewN | apply below_drew1 | refine below_set ?_ (IsS51.ge HI122.out) | refine below_set ?_ GE135.out) | exact HB.out)⟩

/-! ### gram_Parse: function 15 -/
/-! #### tokens and trees, as they are printed and as the walk has them -/
def g44 (x : S44) : GT := ⟨x.f0, x.f1, x.f2, x.f3, x.f4⟩
mutual
def s28 : GTree → S28
 | .node kd s n b l => ⟨kd, s, n, b, s28L l⟩
def s28L : List GTree → List S28
 | [] => []
 | t :: r => s28 t :: s28L r
end
theorem s28L_len : ∀ l : List GTree, (s28L l).length = l.length
 | [] => rfl
 | t :: r => by
  show (s28 t :: s28L r).length = (t :: r).length
  simp [s28L_len r]
theorem s28L_get : ∀ (l : List GTree) (i : Nat), (s28L l)[i]? = l[i]?.map s28
 | [], i => by simp [s28L]
 | t :: r, 0 => by simp [s28L]
 | t :: r, i + 1 => by
  show (s28 t :: s28L r)[i + 1]? = ((t :: r)[i + 1]?).map s28
  simpa using s28L_get r i
theorem bytesRd_of {w : World} {A : Option Addr} {xs : List Int} (h : (Kd.int .u8).C w A xs.length xs) (c : Nat) : BytesRd w (fun _ => True) (.slice A xs.length c) xs := by
 refine ⟨⟨A, c, rfl, fun hA => ?_, fun ad had j x hx => ?_⟩, fun _ _ _ _ _ => trivial⟩
 ·
  cases xs with
  | nil => rfl
  | cons x l =>
   obtain ⟨ad, had, _⟩ := h.2.2 (by simp)
   rw [hA] at had
   cases had
 ·
  have hlt := (List.getElem?_eq_some_iff.1 hx).1
  obtain ⟨ad', had', hc⟩ := h.2.2 (by omega)
  rw [had] at had'
  obtain rfl := qI had'
  obtain ⟨cs, _, hk, hcell⟩ := hc j x hx
  have hk' : cs = [.int .u8 x] := hk
  subst hk'
  have := hcell 0 _ rfl
  rw [show j * (Kd.int .u8).sz + 0 = j by show j * 1 + 0 = j; omega] at this
  exact this
theorem toks_of {w : World} {A : Option Addr} {l : List S44} (h : Kd.C k44 w A l.length l) (hb : ∀ x ∈ l, x.f3.length ≤ 1000000000) : Toks w (fun _ => True) A (l.map g44) := by
 refine ⟨fun i t ht => ?_, fun t ht => ?_⟩
 ·
  obtain ⟨x, hx, rfl⟩ : ∃ x, l[i]? = some x ∧ g44 x = t := by simpa using ht
  have hlt := (List.getElem?_eq_some_iff.1 hx).1
  obtain ⟨ad, e, hc⟩ := h.2.2 (by omega)
  obtain ⟨cs, _, hk, hcell⟩ := hc i x hx
  obtain ⟨A3, c3, rfl, l3, g3⟩ := k44_open hk
  obtain ⟨x0, hx0⟩ : ∃ x0, l[0]? = some x0 := ⟨_, List.getElem?_eq_getElem (by omega)⟩
  obtain ⟨cs0, _, hk0, hcell0⟩ := hc 0 x0 hx0
  obtain ⟨A30, c30, rfl, _⟩ := k44_open hk0
  have hsp := World.cell?_spot (hcell0 0 _ rfl)
  obtain ⟨g, o, sp⟩ := ad
  have hsp' : sp = none := by simpa [Addr.add] using hsp
  subst hsp'
  refine ⟨g, o, A3, c3, e, trivial, fun j u hj => ?_, bytesRd_of g3 c3⟩
  have := hcell j u hj
  rw [Addr.add_lit, show o + (i * k44.sz + j) = o + i * 5 + j by show o + (i * 5 + j) = o + i * 5 + j; omega] at this
  exact this
 ·
  obtain ⟨x, hx, rfl⟩ := List.mem_map.1 ht
  exact hb x hx
theorem own_from {w : World} {base : Nat} {e : TypeId} {sz : Nat} {v : Value} {n : Nat} {xs : List Value} (h : w.ownsRow 0 e sz v n xs) (hb : ∀ k ∈ bl v, base ≤ k) : w.ownsRow base e sz v n xs := by
 refine ⟨h.1, ?_⟩
 rcases h.2 with hn | ⟨g, cap, cur, rfl, h1, h2, h3⟩
 ·
  exact .inl hn
 ·
  exact .inr ⟨g, cap, cur, rfl, hb g (by simp [bl, Value.ownBlock]), h2, h3⟩
theorem bytes_R {w : World} {P ok : Nat → Prop} {base : Nat} {v : Value} {b : List Int} (h : BytesIn w P v b) (hP : ∀ k, P k → base ≤ k ∧ ok k) : (Kd.int .u8).R 5 w base ok v b := by
 refine ⟨fun k hk => (hP k (h.2 k (by simp [bl, hk]))).2, b.map (Value.int .u8), own_from h.1 (fun k hk => (hP k (h.2 k hk)).1), ?_, fun j p hp => ?_⟩
 ·
  show (b.map (Value.int .u8)).length = b.length * 1
  simp
 ·
  show ((b.map (Value.int .u8)).drop (j * 1)).take 1 = [Value.int .u8 p]
  have hj := (List.getElem?_eq_some_iff.1 hp).1
  rw [Nat.mul_one, List.take_one, List.head?_drop, List.getElem?_map, hp]
  rfl
theorem flat5_piece : ∀ (vs : List V5) (i : Nat) (u : V5), vs[i]? = some u → ((flat5 vs).drop (i * 5)).take 5 = cells5 u
 | [], i, u, h => by simp at h
 | x :: l, 0, u, h => by
  obtain rfl : x = u := by simpa using h
  simp [flat5, cells5]
 | x :: l, i + 1, u, h => by
  have ih := flat5_piece l i u (by simpa using h)
  have e : flat5 (x :: l) = cells5 x ++ flat5 l := by simp [flat5]
  rw [e, List.drop_append, show (cells5 x).drop ((i + 1) * 5) = [] from List.drop_eq_nil_of_le (by simp [cells5]; omega), List.nil_append, show (i + 1) * 5 - (cells5 x).length = i * 5 by simp [cells5]; omega]
  exact ih
theorem tree_M {w : World} : ∀ (N : Nat) (t : GTree), nodesT t ≤ N → ∀ (P ok : Nat → Prop) (base : Nat) (u : V5), TV w P t u → (∀ k, P k → base ≤ k ∧ ok k) → k28.M w base ok (s28 t) [u.a, u.b, u.c, u.d, u.e]
 | 0, .node kd s n b l, hN => by unfold nodesT at hN; omega
 | N + 1, .node kd s n b l, hN => by
  intro P ok base u h hP
  unfold TV at h
  obtain ⟨h1, h2, h3, h4, vs, h5, h6, h7⟩ := h
  have hlen : nodesL l ≤ N := by unfold nodesT at hN; omega
  have hl := TZ_len l vs h7
  have e : s28 (.node kd s n b l) = ⟨kd, s, n, b, s28L l⟩ := rfl
  rw [e, h1, h2, h3]
  refine k28_mkM w base ok _ (bytes_R h4 hP) ?_
  refine ⟨fun k hk => (hP k (h6 k (by simp [bl, hk]))).2, flat5 vs, ?_, ?_, fun j p hp => ?_⟩
  ·
   rw [s28L_len]
   exact own_from h5 (fun k hk => (hP k (h6 k hk)).1)
  ·
   rw [s28L_len, flat5_len, hl]
   rfl
  ·
   rw [s28L_get] at hp
   obtain ⟨x, hx, rfl⟩ : ∃ x, l[j]? = some x ∧ s28 x = p := by simpa using hp
   obtain ⟨ux, hux, htx⟩ := TZ_get l vs j x h7 hx
   show k28.M w base _ (s28 x) (((flat5 vs).drop (j * 5)).take 5)
   rw [flat5_piece vs j ux hux]
   exact tree_M N x (Nat.le_trans (nodes_mem l j x hx) hlen) _ _ base ux htx (fun k hk => ⟨(hP k hk.1).1, (hP k hk.1).2, fun e => hk.2 (by simp [bl, ← e])⟩)
theorem rows_R {w : World} {P ok : Nat → Prop} {base : Nat} {v : Value} {l : List GTree} (h : RT w P v l) (hP : ∀ k, P k → base ≤ k ∧ ok k) : k28.R 28 w base ok v (s28L l) := by
 obtain ⟨vs, h5, h6, h7⟩ := h
 have hl := TZ_len l vs h7
 refine ⟨fun k hk => (hP k (h6 k (by simp [bl, hk]))).2, flat5 vs, ?_, ?_, fun j p hp => ?_⟩
 ·
  rw [s28L_len]
  exact own_from h5 (fun k hk => (hP k (h6 k hk)).1)
 ·
  rw [s28L_len, flat5_len, hl]
  rfl
 ·
  rw [s28L_get] at hp
  obtain ⟨x, hx, rfl⟩ : ∃ x, l[j]? = some x ∧ s28 x = p := by simpa using hp
  obtain ⟨ux, hux, htx⟩ := TZ_get l vs j x h7 hx
  show k28.M w base _ (s28 x) (((flat5 vs).drop (j * 5)).take 5)
  rw [flat5_piece vs j ux hux]
  exact tree_M (nodesT x) x (Nat.le_refl _) _ _ base ux htx (fun k hk => ⟨(hP k hk.1).1, (hP k hk.1).2, fun e => hk.2 (by simp [bl, ← e])⟩)
/-- A tree that is read, as the walk has it. -/
theorem tree_rd {w : World} : ∀ (N : Nat) (t : GTree), nodesT t ≤ N → ∀ (cs : List Value), k28.K w (s28 t) cs → ∃ u : V5, cs = [u.a, u.b, u.c, u.d, u.e] ∧ TVr w (fun _ => True) t u
 | 0, .node kd s n b l, hN => by unfold nodesT at hN; omega
 | N + 1, .node kd s n b l, hN => by
  intro cs h
  have hlen : nodesL l ≤ N := by unfold nodesT at hN; omega
  obtain ⟨A3, c3, A4, c4, rfl, l3, g3, l4, g4⟩ := k28_open h
  have e4 : (s28 (.node kd s n b l)).f4 = s28L l := rfl
  rw [e4] at g4 l4
  refine ⟨⟨.int .i64 kd, .string s, .int .i64 n, .slice A3 b.length c3, .slice A4 (s28L l).length c4⟩, rfl, ?_⟩
  unfold TVr
  refine ⟨rfl, rfl, rfl, bytesRd_of g3 c3, A4, c4, by rw [s28L_len], by rw [← s28L_len]; exact l4, by rw [← s28L_len]; exact g4.2.1, TLr_of l 0 (fun i t ht => ?_)⟩
  have hlt := (List.getElem?_eq_some_iff.1 ht).1
  obtain ⟨ad, e, hc⟩ := g4.2.2 (by rw [s28L_len]; omega)
  obtain ⟨cs, _, hk, hcell⟩ := hc i (s28 t) (by rw [s28L_get, ht]; rfl)
  obtain ⟨u, rfl, htv⟩ := tree_rd N t (Nat.le_trans (nodes_mem l i t ht) hlen) cs hk
  have h0 : ∃ x0, l[0]? = some x0 := ⟨_, List.getElem?_eq_getElem (by omega)⟩
  obtain ⟨x0, hx0⟩ := h0
  obtain ⟨cs0, _, hk0, hcell0⟩ := hc 0 (s28 x0) (by rw [s28L_get, hx0]; rfl)
  obtain ⟨B3, d3, B4, d4, rfl, _⟩ := k28_open hk0
  have hsp := World.cell?_spot (hcell0 0 _ rfl)
  obtain ⟨g, o, sp⟩ := ad
  have hsp' : sp = none := by simpa [Addr.add] using hsp
  subst hsp'
  refine ⟨g, o, u, e, trivial, fun j x hj => ?_, htv⟩
  have := hcell j x hj
  rw [Addr.add_lit, show o + (i * k28.sz + j) = o + (0 + i) * 5 + j by show o + (i * 5 + j) = o + (0 + i) * 5 + j; omega] at this
  exact this
def gram_Parse.f (l0 : List S44) : Option (Int × ByteArray × Int × List Int × List S28 × Int × Int) :=
 if l0.length ≤ 100000 ∧ (l0.all fun x => decide (x.f3.length ≤ 1000000000)) = true then
  match parseS (l0.map g44) with
  | .ok (.node kd s n b l) _ => some (kd, s, n, b, s28L l, 0, 0)
  | .bad i c => some (0, ⟨#[]⟩, 0, [], [], i, c)
 else none
theorem gram_Parse.calls (A0 : Option Addr) (c0 : Nat) (l0 : List S44) (r1 : Int) (r2 : ByteArray) (r3 : Int) (r4 : List Int) (r5 : List S28) (r6 : Int) (r7 : Int) (w : World) (hr0 : Kd.C k44 w A0 l0.length l0) (hc0 : l0.length ≤ c0) (h : gram_Parse.f l0 = some (r1, r2, r3, r4, r5, r6, r7)) :
  Calls Tryd.prog 15 #[.slice A0 l0.length c0] w fun e w' => ∃ v3_ v4_ : Value, e = .returned (.tuple #[.agg #[.int .i64 r1, .string r2, .int .i64 r3, v3_, v4_], .int .i64 r6, .int .i64 r7]) ∧ Kd.R (Kd.int .u8) 5 w' w.heap.size (fun _ => True) v3_ r4 ∧ Kd.R k28 28 w' w.heap.size (fun k_ => some k_ ≠ (v3_ : Value).ownBlock) v4_ r5 ∧ Below w.heap.size w w' := by
 unfold gram_Parse.f at h
 split at h
 ·
  rename_i hc
  obtain ⟨h1, h2⟩ := hc
  have hb : ∀ x ∈ l0, x.f3.length ≤ 1000000000 := fun x hx => by
   have := List.all_eq_true.mp h2 x hx
   simpa using this
  have hp := parse_c w A0 c0 (l0.map g44) (toks_of hr0 hb) (by simpa using h1)
  rw [List.length_map] at hp
  refine hp.mono ?_
  cases hr : parseS (l0.map g44) with
  | bad i c =>
   rw [hr] at h
   simp only [Option.some.injEq, Prod.mk.injEq] at h
   obtain ⟨rfl, rfl, rfl, rfl, rfl, rfl, rfl⟩ := h
   rintro e w' ⟨rfl, ho⟩
   exact ⟨_, _, rfl, Kd.R_nil _ _ _ _ _, Kd.R_nil _ _ _ _ _, ho.below (by simp) (Nat.le_refl _)⟩
  | ok t j =>
   obtain ⟨kd, s, n, b, l⟩ := t
   rw [hr] at h
   simp only [Option.some.injEq, Prod.mk.injEq] at h
   obtain ⟨rfl, rfl, rfl, rfl, rfl, rfl, rfl⟩ := h
   rintro e w' ⟨u, rfl, htv, ho, hd⟩
   unfold TV at htv
   obtain ⟨q1, q2, q3, q4, vs, q5, q6, q7⟩ := htv
   obtain ⟨ua, ub, uc, ud, ue⟩ := u
   simp only at q1 q2 q3 hd
   subst q1 q2 q3 hd
   exact ⟨_, _, rfl, bytes_R q4 (fun k hk => ⟨hk, trivial⟩), rows_R (P := fun k => w.heap.size ≤ k) ⟨vs, q5, q6, q7⟩ (fun k hk => ⟨hk, by simp [Value.ownBlock]⟩), ho.below (by simp) (Nat.le_refl _)⟩
 ·
  cases h
/-! ### rookerylaw16_parse: function 8 -/
def rookerylaw16_parse.f (k : Nat) (a0 : ByteArray) : Option (Int × ByteArray × Int × List Int × (List (S28)) × Int × Int) := (lex_Scan.f k a0).bind fun bt140 => (if bt140.2.2 = 0 then ((gram_Parse.f bt140.1).bind fun bt145 => (some (bt145.1, bt145.2.1, bt145.2.2.1, bt145.2.2.2.1, bt145.2.2.2.2.1, bt145.2.2.2.2.2.1, bt145.2.2.2.2.2.2))) else (some (0, (⟨#[]⟩ : ByteArray), 0, ([] : List Int), ([] : List (S28)), 0, bt140.2.2)))
theorem rookerylaw16_parse.mono : ∀ a0 k, LeO (rookerylaw16_parse.f k a0) (rookerylaw16_parse.f (k + 1) a0) := by
 intro a0 k
 unfold rookerylaw16_parse.f
 repeat' first
   | (with_reducible exact lex_Scan.mono _ _)
   | (with_reducible exact LeO.refl _)
   | (with_reducible exact LeO.none _)
   | (with_reducible refine LeO.ite ?_ ?_)
   | (with_reducible refine LeO.bind ?_ (fun _ => ?_))
   | exact lex_Scan.mono _ _
   | exact LeO.none _
   | refine LeO.ite ?_ ?_
   | refine LeO.bind ?_ (fun _ => ?_)
set_option maxHeartbeats 8000000 in
set_option maxRecDepth 100000 in
theorem rookerylaw16_parse.calls (k : Nat) (a0 : ByteArray) (r1 : Int) (r2 : ByteArray) (r3 : Int) (r4 : List Int) (r5 : List (S28)) (r6 : Int) (r7 : Int) (w : World) (hG : Glob w) (h : rookerylaw16_parse.f k a0 = some (r1, r2, r3, r4, r5, r6, r7)) :
  Calls Tryd.prog 8 #[.string a0] w fun e w' => ∃ v3_ v4_ : Value, e = .returned (.tuple #[.agg #[.int .i64 r1, .string r2, .int .i64 r3, v3_, v4_], .int .i64 r6, .int .i64 r7]) ∧ Kd.R (Kd.int .u8) 5 w' w.heap.size (fun _ => True) v3_ r4 ∧ Kd.R k28 28 w' w.heap.size (fun k_ => some k_ ≠ (v3_ : Value).ownBlock) v4_ r5 ∧ Below w.heap.size w w' := by
 have hu28 := Tryd.underlying28
 have HB := qM (Below.refl w.heap.size w)
 have H : ((lex_Scan.f k a0).bind fun bt140 => (if bt140.2.2 = 0 then ((gram_Parse.f bt140.1).bind fun bt145 => (some (bt145.1, bt145.2.1, bt145.2.2.1, bt145.2.2.2.1, bt145.2.2.2.2.1, bt145.2.2.2.2.2.1, bt145.2.2.2.2.2.2))) else (some (0, (⟨#[]⟩ : ByteArray), 0, ([] : List Int), ([] : List (S28)), 0, bt140.2.2)))) = some (r1, r2, r3, r4, r5, r6, r7) := h
 clear h
 replace H := Option.bind_eq_some_iff.mp H
 obtain ⟨⟨t140, t141, t142⟩, A20, H⟩ := H
 replace H : (if t142 = 0 then ((gram_Parse.f t140).bind fun bt145 => (some (bt145.1, bt145.2.1, bt145.2.2.1, bt145.2.2.2.1, bt145.2.2.2.2.1, bt145.2.2.2.2.2.1, bt145.2.2.2.2.2.2))) else (some (0, (⟨#[]⟩ : ByteArray), 0, ([] : List Int), ([] : List (S28)), 0, t142))) = some (r1, r2, r3, r4, r5, r6, r7) := H
 have A2 := qM A20
 clear A20
 by_cases c3 : t142 = 0
 ·
  rw [if_pos c3] at H
  have c3b0 : (t142 == 0) = true := beq_iff_eq.mpr c3
  have c3b1 : (t142 != 0) = false := bne_eq_false_iff_eq.mpr c3
  clear c3
  replace H := Option.bind_eq_some_iff.mp H
  obtain ⟨⟨t145, t146, t147, t148, t151, t154, t155⟩, A40, H⟩ := H
  replace H : (some (t145, t146, t147, t148, t151, t154, t155)) = some (r1, r2, r3, r4, r5, r6, r7) := H
  have A4 := qM A40
  clear A40
  simp only [Option.some.injEq, Prod.mk.injEq] at H
  obtain ⟨rfl, rfl, rfl, rfl, rfl, rfl, rfl⟩ := H
  go_enter Tryd.func8, Tryd.ntmps8
  go_wp2_with (first | ((with_reducible refine gate_dst (N := 2) rfl ?_); refine box_event ?hg (N := 2) ?hd (cs := #[.int .i64 0, .string (⟨#[]⟩ : ByteArray), .int .i64 0, .slice none 0 0, .slice none 0 0]) (t := 28) ?hr ?_; (case hd => rfl); (case hg => rfl); (case hr => first | (go_simp; done) | (go_simp; rfl)); intro gb139 hg w5 hbox hb; have n0_ := qM (below_step (qB HB.out) hb); have n1_ := qM (hbox); have n2_ := qM ((by rw [hg]; exact (below_size (qB HB.out)) : w.heap.size ≤ gb139)); have n3_ := qM ((by rw [hg]; exact (below_size (qB HB.out)) : w.heap.size ≤ gb139)); clear HB; have HB := n0_; have BK139 := n1_; have GW139 := n2_; have GE139 := n3_; clear n0_ n1_ n2_ n3_; clear hb hbox hg) | ((with_reducible refine gate_callee (f := 14) rfl ?_); refine goesL_ (some 10) rfl rfl Tryd.func14 (by kernel_rfl) rfl #[.string a0] rfl (by (try simp only [List.map_toArray, List.map_cons, List.map_nil]); first | done | rfl | (simp only [List.length_drop, List.length_take]; rfl)) ?_; (with_reducible refine (lex_Scan.calls k a0 t140 t141 t142 _ ?side1 A2.out).mono ?_); (case side1 => first | exact hG | exact hG.drewN _ | exact hG.drew | exact hG.below (by repeat (first | (with_reducible first | exact HB.out | apply below_alloc | apply pw_below_drewN | apply below_drew1 | refine below_set ?_ GE139.out) | exact HB.out)) | (refine hG.below ?_; (repeat (first | (with_reducible exact Below.refl _ _) | (with_reducible refine pw_below_drewN ?_ _) | (with_reducible refine below_drew ?_) | (with_reducible refine below_alloc ?_ _))))); rintro e w6 ⟨v143, rfl, ho0, hb⟩; refine ⟨_, rfl, ?_⟩; have n0_ := qM (Kd.S_lower ho0 (below_size (by repeat (first | (with_reducible first | exact HB.out | apply below_alloc | apply pw_below_drewN | apply below_drew1 | refine below_set ?_ GE139.out) | exact HB.out)))); have n1_ := qM (blk_below (g := gb139) (o := .cells #[.int .i64 0, .string (⟨#[]⟩ : ByteArray), .int .i64 0, .slice none 0 0, .slice none 0 0] 28 (0, 0)) (qK BK139.out) hb); have n2_ := qM (below_step (by repeat (first | (with_reducible first | exact HB.out | apply below_alloc | apply pw_below_drewN | apply below_drew1 | refine below_set ?_ GE139.out) | exact HB.out)) hb); clear BK139; clear HB; have HO144 := n0_; have BK139 := n1_; have HB := n2_; clear n0_ n1_ n2_; (try clear hb); (try clear hb2); (try clear hk); (try clear hi); (try clear ho0); obtain ⟨Ao7, co7, eo7⟩ := Kd.S_slice HO144.out; subst eo7) | ((with_reducible refine gate_callee (f := 15) rfl ?_); refine goesL_ (some 19) rfl rfl Tryd.func15 (by kernel_rfl) rfl #[.slice Ao7 t140.length co7] rfl (by (try simp only [List.map_toArray, List.map_cons, List.map_nil]); first | done | rfl | (simp only [List.length_drop, List.length_take]; rfl)) ?_; (with_reducible refine (gram_Parse.calls _ _ t140 t145 t146 t147 t148 t151 t154 t155 _ ?side1 ?side2 A4.out).mono ?_); (case side1 => repeat (first | exact (Kd.S_reads' HO144.out).2.2 | (with_reducible refine Kd.C_alloc ?_ _) | (with_reducible refine Kd.C_drewN ?_ _) | (with_reducible refine Kd.C_drew ?_))); (case side2 => exact (Kd.S_reads' HO144.out).2.1); rintro e w8 ⟨v149, v152, rfl, ho0, ho1, hb⟩; refine ⟨_, rfl, ?_⟩; have n0_ := qM (Kd.S_elder' (by (with_reducible repeat (first | apply Kd.S_alloc | apply Kd.S_drewN | apply Kd.S_drew)); exact HO144.out) (Kd.R_base ho0) hb); have n1_ := qM (Kd.R_lower ho0 (below_size (by repeat (first | (with_reducible first | exact HB.out | apply below_alloc | apply pw_below_drewN | apply below_drew1 | refine below_set ?_ GE139.out) | exact HB.out)))); have n2_ := qM (Kd.R_lower (Kd.R_newB ho1 (g := gb139) (o := .cells #[.int .i64 0, .string (⟨#[]⟩ : ByteArray), .int .i64 0, .slice none 0 0, .slice none 0 0] 28 (0, 0)) (qK BK139.out)) (below_size (by repeat (first | (with_reducible first | exact HB.out | apply below_alloc | apply pw_below_drewN | apply below_drew1 | refine below_set ?_ GE139.out) | exact HB.out)))); have n3_ := qM (blk_below (g := gb139) (o := .cells #[.int .i64 0, .string (⟨#[]⟩ : ByteArray), .int .i64 0, .slice none 0 0, .slice none 0 0] 28 (0, 0)) (qK BK139.out) hb); have n4_ := qM (below_step (by repeat (first | (with_reducible first | exact HB.out | apply below_alloc | apply pw_below_drewN | apply below_drew1 | refine below_set ?_ GE139.out) | exact HB.out)) hb); clear HO144; clear BK139; clear HB; have HO144 := n0_; have HO150 := n1_; have HO153 := n2_; have BK139 := n3_; have HB := n4_; clear n0_ n1_ n2_ n3_ n4_; (try clear hb); (try clear hb2); (try clear hk); (try clear hi); (try clear ho0); (try clear ho1); have hcz9_0 : w8.cell? ⟨gb139, 0, none⟩ = some (.int .i64 0) := (blk_cell BK139.out 0).trans rfl; have hcz9_1 : w8.cell? ⟨gb139, 1, none⟩ = some (.string (⟨#[]⟩ : ByteArray)) := (blk_cell BK139.out 1).trans rfl; have hcz9_2 : w8.cell? ⟨gb139, 2, none⟩ = some (.int .i64 0) := (blk_cell BK139.out 2).trans rfl; have hcz9_3 : w8.cell? ⟨gb139, 3, none⟩ = some (.slice none 0 0) := (blk_cell BK139.out 3).trans rfl; have hcz9_4 : w8.cell? ⟨gb139, 4, none⟩ = some (.slice none 0 0) := (blk_cell BK139.out 4).trans rfl; have hfz9_0 := blk_frozen BK139.out 0; have hfz9_1 := blk_frozen BK139.out 1; have hfz9_2 := blk_frozen BK139.out 2; have hfz9_3 := blk_frozen BK139.out 3; have hfz9_4 := blk_frozen BK139.out 4; obtain ⟨Ao10, co10, eo10⟩ := Kd.R_slice HO150.out; subst eo10; obtain ⟨Ao11, co11, eo11⟩ := Kd.R_slice HO153.out; subst eo11))
  refine bodyPost_ret (results_ctt rfl _ _ gb139 28 #[.int .i64 t145, .string t146, .int .i64 t147, .slice Ao10 t148.length co10, .slice Ao11 t151.length co11] (0, 0) _ rfl (by (with_reducible repeat (first | refine blk_drewN ?_ _ | refine blk_drew ?_ | refine blk_alloc ?_ _)); refine blk_put (cs := #[.int .i64 t145, .string t146, .int .i64 t147, .slice Ao10 t148.length co10, .slice none 0 0]) ?_ 4 _ rfl; (with_reducible repeat (first | refine blk_drewN ?_ _ | refine blk_drew ?_ | refine blk_alloc ?_ _)); refine blk_put (cs := #[.int .i64 t145, .string t146, .int .i64 t147, .slice none 0 0, .slice none 0 0]) ?_ 3 _ rfl; (with_reducible repeat (first | refine blk_drewN ?_ _ | refine blk_drew ?_ | refine blk_alloc ?_ _)); refine blk_put (cs := #[.int .i64 t145, .string t146, .int .i64 0, .slice none 0 0, .slice none 0 0]) ?_ 2 _ rfl; (with_reducible repeat (first | refine blk_drewN ?_ _ | refine blk_drew ?_ | refine blk_alloc ?_ _)); refine blk_put (cs := #[.int .i64 t145, .string (⟨#[]⟩ : ByteArray), .int .i64 0, .slice none 0 0, .slice none 0 0]) ?_ 1 _ rfl; (with_reducible repeat (first | refine blk_drewN ?_ _ | refine blk_drew ?_ | refine blk_alloc ?_ _)); refine blk_put (cs := #[.int .i64 0, .string (⟨#[]⟩ : ByteArray), .int .i64 0, .slice none 0 0, .slice none 0 0]) ?_ 0 _ rfl; (with_reducible repeat (first | refine blk_drewN ?_ _ | refine blk_drew ?_ | refine blk_alloc ?_ _)); exact BK139.out) Tryd.underlying28 rfl (by kernel_rfl)) rfl ?_
  exact ⟨_, _, by first | rfl | (simp [errW_none, errW_some] <;> rfl) | (simp [*, errW_none, errW_some] <;> rfl), by (with_reducible repeat (first | apply Kd.R_alloc | apply Kd.R_drewN | apply Kd.R_drew)); exact Kd.R_mono (Kd.R_far (p := ⟨gb139, 4, none⟩) (Kd.R_far (p := ⟨gb139, 3, none⟩) (Kd.R_far (p := ⟨gb139, 2, none⟩) (Kd.R_far (p := ⟨gb139, 1, none⟩) (Kd.R_far (p := ⟨gb139, 0, none⟩) (Kd.R_types HO150.out BK139.out (by decide)) (fun _ hk => hk.2) (.int .i64 t145)) (fun _ hk => hk.2) (.string t146)) (fun _ hk => hk.2) (.int .i64 t147)) (fun _ hk => hk.2) (.slice Ao10 t148.length co10)) (fun _ hk => hk.2) (.slice Ao11 t151.length co11)) (fun _ hk => trivial), by (with_reducible repeat (first | apply Kd.R_alloc | apply Kd.R_drewN | apply Kd.R_drew)); exact Kd.R_mono (Kd.R_far (p := ⟨gb139, 4, none⟩) (Kd.R_far (p := ⟨gb139, 3, none⟩) (Kd.R_far (p := ⟨gb139, 2, none⟩) (Kd.R_far (p := ⟨gb139, 1, none⟩) (Kd.R_far (p := ⟨gb139, 0, none⟩) (Kd.R_mono HO153.out (fun k_ hk => (⟨hk, hk.2⟩ : _ ∧ k_ ≠ gb139))) (fun _ hk => hk.2) (.int .i64 t145)) (fun _ hk => hk.2) (.string t146)) (fun _ hk => hk.2) (.int .i64 t147)) (fun _ hk => hk.2) (.slice Ao10 t148.length co10)) (fun _ hk => hk.2) (.slice Ao11 t151.length co11)) (fun _ hk => hk.1.1), by repeat (first | (with_reducible first | exact HB.out | apply below_alloc | apply pw_below_drewN | apply below_drew1 | refine below_set ?_ GE139.out) | exact HB.out)⟩
 ·
  rw [if_neg c3] at H
  have c3b0 : (t142 == 0) = false := beq_eq_false_iff_ne.mpr c3
  have c3b1 : (t142 != 0) = true := bne_iff_ne.mpr c3
  simp only [Option.some.injEq, Prod.mk.injEq] at H
  obtain ⟨rfl, rfl, rfl, rfl, rfl, rfl, rfl⟩ := H
  go_enter Tryd.func8, Tryd.ntmps8
  go_wp2_with (first | ((with_reducible refine gate_dst (N := 2) rfl ?_); refine box_event ?hg (N := 2) ?hd (cs := #[.int .i64 0, .string (⟨#[]⟩ : ByteArray), .int .i64 0, .slice none 0 0, .slice none 0 0]) (t := 28) ?hr ?_; (case hd => rfl); (case hg => rfl); (case hr => first | (go_simp; done) | (go_simp; rfl)); intro gb139 hg w12 hbox hb; have n0_ := qM (below_step (qB HB.out) hb); have n1_ := qM (hbox); have n2_ := qM ((by rw [hg]; exact (below_size (qB HB.out)) : w.heap.size ≤ gb139)); have n3_ := qM ((by rw [hg]; exact (below_size (qB HB.out)) : w.heap.size ≤ gb139)); clear HB; have HB := n0_; have BK139 := n1_; have GW139 := n2_; have GE139 := n3_; clear n0_ n1_ n2_ n3_; clear hb hbox hg) | ((with_reducible refine gate_callee (f := 14) rfl ?_); refine goesL_ (some 10) rfl rfl Tryd.func14 (by kernel_rfl) rfl #[.string a0] rfl (by (try simp only [List.map_toArray, List.map_cons, List.map_nil]); first | done | rfl | (simp only [List.length_drop, List.length_take]; rfl)) ?_; (with_reducible refine (lex_Scan.calls k a0 t140 t141 t142 _ ?side1 A2.out).mono ?_); (case side1 => first | exact hG | exact hG.drewN _ | exact hG.drew | exact hG.below (by repeat (first | (with_reducible first | exact HB.out | apply below_alloc | apply pw_below_drewN | apply below_drew1 | refine below_set ?_ GE139.out) | exact HB.out)) | (refine hG.below ?_; (repeat (first | (with_reducible exact Below.refl _ _) | (with_reducible refine pw_below_drewN ?_ _) | (with_reducible refine below_drew ?_) | (with_reducible refine below_alloc ?_ _))))); rintro e w13 ⟨v143, rfl, ho0, hb⟩; refine ⟨_, rfl, ?_⟩; have n0_ := qM (Kd.S_lower ho0 (below_size (by repeat (first | (with_reducible first | exact HB.out | apply below_alloc | apply pw_below_drewN | apply below_drew1 | refine below_set ?_ GE139.out) | exact HB.out)))); have n1_ := qM (blk_below (g := gb139) (o := .cells #[.int .i64 0, .string (⟨#[]⟩ : ByteArray), .int .i64 0, .slice none 0 0, .slice none 0 0] 28 (0, 0)) (qK BK139.out) hb); have n2_ := qM (below_step (by repeat (first | (with_reducible first | exact HB.out | apply below_alloc | apply pw_below_drewN | apply below_drew1 | refine below_set ?_ GE139.out) | exact HB.out)) hb); clear BK139; clear HB; have HO144 := n0_; have BK139 := n1_; have HB := n2_; clear n0_ n1_ n2_; (try clear hb); (try clear hb2); (try clear hk); (try clear hi); (try clear ho0); have hcz14_0 : w13.cell? ⟨gb139, 0, none⟩ = some (.int .i64 0) := (blk_cell BK139.out 0).trans rfl; have hcz14_1 : w13.cell? ⟨gb139, 1, none⟩ = some (.string (⟨#[]⟩ : ByteArray)) := (blk_cell BK139.out 1).trans rfl; have hcz14_2 : w13.cell? ⟨gb139, 2, none⟩ = some (.int .i64 0) := (blk_cell BK139.out 2).trans rfl; have hcz14_3 : w13.cell? ⟨gb139, 3, none⟩ = some (.slice none 0 0) := (blk_cell BK139.out 3).trans rfl; have hcz14_4 : w13.cell? ⟨gb139, 4, none⟩ = some (.slice none 0 0) := (blk_cell BK139.out 4).trans rfl; have hfz14_0 := blk_frozen BK139.out 0; have hfz14_1 := blk_frozen BK139.out 1; have hfz14_2 := blk_frozen BK139.out 2; have hfz14_3 := blk_frozen BK139.out 3; have hfz14_4 := blk_frozen BK139.out 4))
  refine bodyPost_ret (results_ctt rfl _ _ gb139 28 #[.int .i64 0, .string (⟨#[]⟩ : ByteArray), .int .i64 0, .slice none 0 0, .slice none 0 0] (0, 0) _ rfl (by (with_reducible repeat (first | refine blk_drewN ?_ _ | refine blk_drew ?_ | refine blk_alloc ?_ _)); refine blk_put (cs := #[.int .i64 0, .string (⟨#[]⟩ : ByteArray), .int .i64 0, .slice none 0 0, .slice none 0 0]) ?_ 4 _ rfl; (with_reducible repeat (first | refine blk_drewN ?_ _ | refine blk_drew ?_ | refine blk_alloc ?_ _)); refine blk_put (cs := #[.int .i64 0, .string (⟨#[]⟩ : ByteArray), .int .i64 0, .slice none 0 0, .slice none 0 0]) ?_ 3 _ rfl; (with_reducible repeat (first | refine blk_drewN ?_ _ | refine blk_drew ?_ | refine blk_alloc ?_ _)); refine blk_put (cs := #[.int .i64 0, .string (⟨#[]⟩ : ByteArray), .int .i64 0, .slice none 0 0, .slice none 0 0]) ?_ 2 _ rfl; (with_reducible repeat (first | refine blk_drewN ?_ _ | refine blk_drew ?_ | refine blk_alloc ?_ _)); refine blk_put (cs := #[.int .i64 0, .string (⟨#[]⟩ : ByteArray), .int .i64 0, .slice none 0 0, .slice none 0 0]) ?_ 1 _ rfl; (with_reducible repeat (first | refine blk_drewN ?_ _ | refine blk_drew ?_ | refine blk_alloc ?_ _)); refine blk_put (cs := #[.int .i64 0, .string (⟨#[]⟩ : ByteArray), .int .i64 0, .slice none 0 0, .slice none 0 0]) ?_ 0 _ rfl; (with_reducible repeat (first | refine blk_drewN ?_ _ | refine blk_drew ?_ | refine blk_alloc ?_ _)); exact BK139.out) Tryd.underlying28 rfl (by kernel_rfl)) rfl ?_
  exact ⟨_, _, by first | rfl | (simp [errW_none, errW_some] <;> rfl) | (simp [*, errW_none, errW_some] <;> rfl), by first | exact Kd.R_nil _ _ _ _ _ | exact Kd.N_nil _ _ _ _ _ | exact Kd.V_nil _ _ _ _ _ | exact Kd.Q_nil _ _ _ _ _ | exact Kd.S_nil _ _ _ _ _, by first | exact Kd.R_nil _ _ _ _ _ | exact Kd.N_nil _ _ _ _ _ | exact Kd.V_nil _ _ _ _ _ | exact Kd.Q_nil _ _ _ _ _ | exact Kd.S_nil _ _ _ _ _, by repeat (first | (with_reducible first | exact HB.out | apply below_alloc | apply pw_below_drewN | apply below_drew1 | refine below_set ?_ GE139.out) | exact HB.out)⟩

/-! ### rookerylaw16_alive: function 7 -/
def src1 : ByteArray := ⟨#[102, 40, 41, 32, 45, 62, 32, 49, 32, 45, 32, 50, 32, 45, 32, 51, 46]⟩
def src2 : ByteArray := ⟨#[102, 40, 41, 32, 45, 62, 32, 65, 32, 61, 32, 66, 32, 33, 32, 67, 46]⟩
def src3 : ByteArray := ⟨#[102, 40, 41, 32, 45, 62, 32, 46]⟩
def nd (kd : Int) (s : List UInt8) (n : Int) (l : List S28) : S28 := ⟨kd, ⟨s.toArray⟩, n, [], l⟩
def tr1x : S28 := nd 8 [45] 0 [nd 8 [45] 0 [nd 1 [] 1 [], nd 1 [] 2 []], nd 1 [] 3 []]
def tr2x : S28 := nd 9 [] 0 [nd 3 [65] 0 [], nd 10 [] 0 [nd 3 [66] 0 [], nd 3 [67] 0 []]]
def tr1 : List S28 := [nd 17 [102] 0 [nd 16 [] 0 [tr1x]]]
def tr2 : List S28 := [nd 17 [102] 0 [nd 16 [] 0 [tr2x]]]
theorem par1 : rookerylaw16_parse.f 40 src1 = some (18, ⟨#[]⟩, 0, [], tr1, 0, 0) := by kernel_rfl
theorem par2 : rookerylaw16_parse.f 40 src2 = some (18, ⟨#[]⟩, 0, [], tr2, 0, 0) := by kernel_rfl
theorem par3 : rookerylaw16_parse.f 40 src3 = some (0, ⟨#[]⟩, 0, [], [], 4, 160) := by kernel_rfl
/-- The first of some trees as they lie. -/
theorem first_at {w : World} {A : Option Addr} {xs : List S28} (h : k28.C w A xs.length xs) (i : Nat) (x : S28) (hx : xs[i]? = some x) : ∃ g o A3 c3 A4 c4, A = some ⟨g, o, none⟩ ∧ w.cell? ⟨g, o + i * 5, none⟩ = some (.int .i64 x.f0) ∧ w.cell? ⟨g, o + i * 5 + 1, none⟩ = some (.string x.f1) ∧ w.cell? ⟨g, o + i * 5 + 2, none⟩ = some (.int .i64 x.f2) ∧ w.cell? ⟨g, o + i * 5 + 3, none⟩ = some (.slice A3 x.f3.length c3) ∧ w.cell? ⟨g, o + i * 5 + 4, none⟩ = some (.slice A4 x.f4.length c4) ∧ k28.C w A4 x.f4.length x.f4 := by
 have hlt := (List.getElem?_eq_some_iff.1 hx).1
 obtain ⟨ad, e, hc⟩ := h.2.2 (by omega)
 obtain ⟨cs, _, hk, hcell⟩ := hc i x hx
 obtain ⟨A3, c3, A4, c4, rfl, l3, g3, l4, g4⟩ := k28_open hk
 obtain ⟨x0, hx0⟩ : ∃ x0, xs[0]? = some x0 := ⟨_, List.getElem?_eq_getElem (by omega)⟩
 obtain ⟨cs0, _, hk0, hcell0⟩ := hc 0 x0 hx0
 obtain ⟨B3, d3, B4, d4, rfl, _⟩ := k28_open hk0
 have hsp := World.cell?_spot (hcell0 0 _ rfl)
 obtain ⟨g, o, sp⟩ := ad
 have hsp' : sp = none := by simpa [Addr.add] using hsp
 subst hsp'
 have key : ∀ j u, [Value.int .i64 x.f0, .string x.f1, .int .i64 x.f2, .slice A3 x.f3.length c3, .slice A4 x.f4.length c4][j]? = some u → w.cell? ⟨g, o + i * 5 + j, none⟩ = some u := fun j u hj => by
  have := hcell j u hj
  rw [Addr.add_lit, show o + (i * k28.sz + j) = o + i * 5 + j by show o + (i * 5 + j) = o + i * 5 + j; omega] at this
  exact this
 exact ⟨g, o, A3, c3, A4, c4, e, key 0 _ rfl, key 1 _ rfl, key 2 _ rfl, key 3 _ rfl, key 4 _ rfl, g4⟩
/-- A function of one body of one tree. -/
theorem spine {w : World} {A : Option Addr} {x : S28} (h : k28.C w A 1 [nd 17 [102] 0 [nd 16 [] 0 [x]]]) : ∃ g1 o1 g2 o2 c2 g3 o3 c3 A3x c3x A4x c4x, A = some ⟨g1, o1, none⟩ ∧ w.cell? ⟨g1, o1 + 4, none⟩ = some (.slice (some ⟨g2, o2, none⟩) 1 c2) ∧ w.cell? ⟨g2, o2 + 4, none⟩ = some (.slice (some ⟨g3, o3, none⟩) 1 c3) ∧ w.cell? ⟨g3, o3, none⟩ = some (.int .i64 x.f0) ∧ w.cell? ⟨g3, o3 + 1, none⟩ = some (.string x.f1) ∧ w.cell? ⟨g3, o3 + 2, none⟩ = some (.int .i64 x.f2) ∧ w.cell? ⟨g3, o3 + 3, none⟩ = some (.slice A3x x.f3.length c3x) ∧ w.cell? ⟨g3, o3 + 4, none⟩ = some (.slice A4x x.f4.length c4x) ∧ k28.C w A4x x.f4.length x.f4 := by
 obtain ⟨g1, o1, _, _, A1, c1, rfl, _, _, _, _, h1, k1⟩ := first_at (xs := [nd 17 [102] 0 [nd 16 [] 0 [x]]]) h 0 _ rfl
 obtain ⟨g2, o2, _, _, A2, c2, rfl, _, _, _, _, h2, k2⟩ := first_at k1 0 (nd 16 [] 0 [x]) rfl
 obtain ⟨g3, o3, B3, d3, B4, d4, rfl, q0, q1, q2, q3, q4, k3⟩ := first_at k2 0 x rfl
 exact ⟨g1, o1, g2, o2, c1, g3, o3, c2, B3, d3, B4, d4, rfl, h1, h2, q0, q1, q2, q3, q4, k3⟩
set_option maxHeartbeats 4000000 in
set_option maxRecDepth 100000 in
theorem alive_walk (w : World) (hG : Glob w) : Calls Tryd.prog 7 #[] w fun e w' => e = .returned (.bool true) ∧ Below w.heap.size w w' := by
 have HG := qM hG
 have HB0 := qM (Below.refl w.heap.size w)
 clear hG
 go_enter Tryd.func7, Tryd.ntmps7
 go_upto_region 2 with (go_at_call 8; refine (rookerylaw16_parse.calls 40 src1 _ _ _ _ _ _ _ _ HG.out par1).mono ?_; rintro e w2 ⟨v3, v4, rfl, h3, h4, hb2⟩; obtain ⟨A3, c3, e3⟩ := Kd.R_slice h3; have f3 : v3 = .slice A3 0 c3 := e3; subst f3; obtain ⟨A4, c4, e4⟩ := Kd.R_slice h4; have f4 : v4 = .slice A4 1 c4 := e4; subst f4; have HR4 := qM h4; have HB2 := qM hb2; clear h3 h4 hb2 e3 e4)
 obtain ⟨x2, hx2⟩ : ∃ x2, x2 = w2.alloc (.cells #[.int .i64 18, .string ⟨#[]⟩, .int .i64 0, .slice A3 0 c3, .slice A4 1 c4] 28) := ⟨_, rfl⟩
 rw [← hx2]
 have hc2 : x2.heap[w2.heap.size]? = some (.cells #[.int .i64 18, .string ⟨#[]⟩, .int .i64 0, .slice A3 0 c3, .slice A4 1 c4] 28 (0, 0)) := by rw [hx2]; exact heap_alloc_new w2 _
 have bl2 : Below w.heap.size w x2 := by rw [hx2]; exact below_alloc HB2.out _
 have br2 : Below w2.heap.size w2 x2 := by rw [hx2]; exact below_alloc (Below.refl _ _) _
 have HG2 := qM (HG.out.below bl2)
 clear hx2
 go_upto_region 3 with (go_at_call 8; refine (rookerylaw16_parse.calls 40 src2 _ _ _ _ _ _ _ _ HG2.out par2).mono ?_; rintro e w3 ⟨v5, v6, rfl, h5, h6, hb3⟩; obtain ⟨A5, c5, e5⟩ := Kd.R_slice h5; have f5 : v5 = .slice A5 0 c5 := e5; subst f5; obtain ⟨A6, c6, e6⟩ := Kd.R_slice h6; have f6 : v6 = .slice A6 1 c6 := e6; subst f6; have HR6 := qM h6; have HB3 := qM hb3; clear h5 h6 hb3 e5 e6)
 obtain ⟨x3, hx3⟩ : ∃ x3, x3 = w3.alloc (.cells #[.int .i64 18, .string ⟨#[]⟩, .int .i64 0, .slice A5 0 c5, .slice A6 1 c6] 28) := ⟨_, rfl⟩
 rw [← hx3]
 have hc3 : x3.heap[w3.heap.size]? = some (.cells #[.int .i64 18, .string ⟨#[]⟩, .int .i64 0, .slice A5 0 c5, .slice A6 1 c6] 28 (0, 0)) := by rw [hx3]; exact heap_alloc_new w3 _
 have br3 : Below w3.heap.size w3 x3 := by rw [hx3]; exact below_alloc (Below.refl _ _) _
 have HB23 := qM (HB3.out.trans (br3.mono HB3.out.size))
 have HG3 := qM (HG2.out.below HB23.out)
 clear hx3
 go_upto_region 4 with (go_at_call 8; refine (rookerylaw16_parse.calls 40 src3 _ _ _ _ _ _ _ _ HG3.out par3).mono ?_; rintro e w4 ⟨v7, v8, rfl, h7, h8, hb4⟩; obtain ⟨A7, c7, e7⟩ := Kd.R_slice h7; have f7 : v7 = .slice A7 0 c7 := e7; subst f7; obtain ⟨A8, c8, e8⟩ := Kd.R_slice h8; have f8 : v8 = .slice A8 0 c8 := e8; subst f8; have HB4 := qM hb4; clear h7 h8 hb4 e7 e8)
 have b24 : Below x2.heap.size x2 w4 := HB23.out.trans (HB4.out.mono HB23.out.size)
 have C4 : k28.C w4 A4 1 tr1 := by
  obtain ⟨A, c, e, _, hC⟩ := Kd.R_reads HR4.out
  have hC' := Kd.C_below (Kd.C_below hC br2) b24
  injection e with e1
  rw [e1]
  exact hC'
 have C6 : k28.C w4 A6 1 tr2 := by
  obtain ⟨A, c, e, _, hC⟩ := Kd.R_reads HR6.out
  have hC' := Kd.C_below (Kd.C_below hC br3) HB4.out
  injection e with e1
  rw [e1]
  exact hC'
 have hd2 := (HB23.out.block _ (Array.getElem?_eq_some_iff.1 hc2).1).symm
 have hd3 : x3.heap[w2.heap.size]? = _ := hd2.symm.trans hc2
 have he2 := (HB4.out.block _ (Array.getElem?_eq_some_iff.1 hd3).1).trans hd3
 have he3 := (HB4.out.block _ (Array.getElem?_eq_some_iff.1 hc3).1).trans hc3
 have y2 : w4.cell? ⟨w2.heap.size, 4, none⟩ = some (.slice A4 1 c4) := by rw [Lib.cell_of_heap he2]; rfl
 have y3 : w4.cell? ⟨w3.heap.size, 4, none⟩ = some (.slice A6 1 c6) := by rw [Lib.cell_of_heap he3]; rfl
 have l2 := (Array.getElem?_eq_some_iff.1 he2).1
 have l3 := (Array.getElem?_eq_some_iff.1 he3).1
 obtain ⟨g1, o1, g2, o2, d2, g3, o3, d3, B3, f3, B4, f4, rfl, t1, t2, t30, t31, t32, t33, t34, tC⟩ := spine C4
 obtain ⟨h1, i1, h2, i2, j2, h3, i3, j3, E3, m3, E4, m4, rfl, u1, u2, u30, u31, u32, u33, u34, uC⟩ := spine C6
 obtain ⟨g4, o4, G3, n3, G4, n4, rfl, s0, s1, s2, s3, s4, _⟩ := first_at tC 0 (nd 8 [45] 0 [nd 1 [] 1 [], nd 1 [] 2 []]) rfl
 obtain ⟨g5, o5, M3, k3, M4, k4, e5, p0, p1, p2, p3, p4, _⟩ := first_at tC 1 (nd 1 [] 3 []) rfl
 cases e5
 obtain ⟨h4, i4, H3, r3, H4, r4, rfl, z0, z1, z2, z3, z4, _⟩ := first_at uC 0 (nd 3 [65] 0 []) rfl
 obtain ⟨h5, i5, N3, q3, N4, q4, e6, v0, v1, v2, v3, v4, _⟩ := first_at uC 1 (nd 10 [] 0 [nd 3 [66] 0 [], nd 3 [67] 0 []]) rfl
 cases e6
 have lt1 := World.block_lt_of_cell? _ _ t1
 have lt2 := World.block_lt_of_cell? _ _ t2
 have lt3 := World.block_lt_of_cell? _ _ t30
 have lu1 := World.block_lt_of_cell? _ _ u1
 have lu2 := World.block_lt_of_cell? _ _ u2
 have lu3 := World.block_lt_of_cell? _ _ u30
 have ls := World.block_lt_of_cell? _ _ s0
 have lz := World.block_lt_of_cell? _ _ z0
 simp only [tr1x, tr2x, nd, List.length_cons, List.length_nil, Nat.zero_add, Nat.zero_mul, Nat.one_mul, Nat.add_zero, Nat.reduceAdd] at *
 have br2' := qM br2
 clear C4 C6 tC uC hd2 hd3 he2 he3 b24 hc2 hc3 bl2 br2 br3
 simp only [List.append_eq, List.cons_append, List.nil_append]
 go_upto_region 8 with fail
 (try simp only [List.append_eq, List.cons_append, List.nil_append])
 obtain ⟨w5, hw5⟩ : ∃ w5, w5 = ((w4.alloc (.cells #[.int .i64 0, .string ⟨#[]⟩, .int .i64 0, .slice A7 0 c7, .slice A8 0 c8] 28)).alloc (.cells #[.int .i64 8, .string ⟨#[45]⟩, .int .i64 0, .slice B3 0 f3, .slice (some ⟨g4, o4, none⟩) 2 f4] 28)).alloc (.cells #[.int .i64 9, .string ⟨#[]⟩, .int .i64 0, .slice E3 0 m3, .slice (some ⟨h4, i4, none⟩) 2 m4] 28) := ⟨_, rfl⟩
 rw [← hw5]
 have b45 : Below w4.heap.size w4 w5 := by rw [hw5]; exact below_alloc (below_alloc (below_alloc (Below.refl _ _) _) _) _
 have key : ∀ g o v, w4.cell? ⟨g, o, none⟩ = some v → w5.cell? ⟨g, o, none⟩ = some v := fun g o v h => (World.cell?_of_block (b45.block g (World.block_lt_of_cell? _ _ h))).trans h
 have hX : w5.heap[w4.heap.size + 1]? = some (.cells #[.int .i64 8, .string ⟨#[45]⟩, .int .i64 0, .slice B3 0 f3, .slice (some ⟨g4, o4, none⟩) 2 f4] 28 (0, 0)) := by
  rw [hw5, heap_alloc_at _ _ _ (by simp)]
  exact heap_alloc_is _ _ _ _ (by simp)
 have hY : w5.heap[w4.heap.size + 1 + 1]? = some (.cells #[.int .i64 9, .string ⟨#[]⟩, .int .i64 0, .slice E3 0 m3, .slice (some ⟨h4, i4, none⟩) 2 m4] 28 (0, 0)) := by
  rw [hw5]
  exact heap_alloc_is _ _ _ _ (by simp)
 have X0 : w5.cell? ⟨w4.heap.size + 1, 0, none⟩ = some (.int .i64 8) := by rw [Lib.cell_of_heap hX]; rfl
 have X1 : w5.cell? ⟨w4.heap.size + 1, 1, none⟩ = some (.string ⟨#[45]⟩) := by rw [Lib.cell_of_heap hX]; rfl
 have X4 : w5.cell? ⟨w4.heap.size + 1, 4, none⟩ = some (.slice (some ⟨g4, o4, none⟩) 2 f4) := by rw [Lib.cell_of_heap hX]; rfl
 have Y0 : w5.cell? ⟨w4.heap.size + 1 + 1, 0, none⟩ = some (.int .i64 9) := by rw [Lib.cell_of_heap hY]; rfl
 have Y4 : w5.cell? ⟨w4.heap.size + 1 + 1, 4, none⟩ = some (.slice (some ⟨h4, i4, none⟩) 2 m4) := by rw [Lib.cell_of_heap hY]; rfl
 have S0 := key _ _ _ s0
 have P2 := key _ _ _ p2
 have V0 := key _ _ _ v0
 have HB5 := qM b45
 clear key hX hY hw5 b45 s0 s1 s2 s3 s4 p0 p1 p2 p3 p4 z0 z1 z2 z3 z4 v0 v1 v2 v3 v4 t1 t2 t30 t31 t32 t33 t34 u1 u2 u30 u31 u32 u33 u34 y2 y3
 go_wp2_with fail
 go_ret
 have q2 := HB2.out
 have q3 : Below w.heap.size w x3 := (HB2.out.trans (br2'.out.mono HB2.out.size)).trans (HB23.out.mono (Nat.le_trans HB2.out.size br2'.out.size))
 have q4 := q3.trans (HB4.out.mono q3.size)
 exact ⟨rfl, q4.trans (HB5.out.mono q4.size)⟩
def rookerylaw16_alive.f : Option Bool := some true
theorem rookerylaw16_alive.calls (r : Bool) (w : World) (hG : Glob w) (h : rookerylaw16_alive.f = some r) : Calls Tryd.prog 7 #[] w fun e w' => e = .returned (.bool r) ∧ Below w.heap.size w w' := by
 injection h with h
 subst h
 exact alive_walk w hG
end Go.Proofs.YtejidddjkngoiaaDoor.PGram
