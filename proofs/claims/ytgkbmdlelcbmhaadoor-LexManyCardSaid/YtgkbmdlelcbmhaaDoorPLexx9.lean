-- Written by a turned copy of the kit's printer (wip/patch_print.py), in this project; not trusted: Lean checks it.
import Derived.Test.YtgkbmdlelcbmhaaDoorPLexx0
import Derived.Test.YtgkbmdlelcbmhaaDoorPLexx2
namespace Go.Proofs.YtgkbmdlelcbmhaaDoor.PLex
open Go.RowKit Go.Proofs.YtgkbmdlelcbmhaaDoorW.PrintWords Go.Proofs.YtgkbmdlelcbmhaaDoorW.PrintLast Go.Proofs.YtgkbmdlelcbmhaaDoorW.PrintMore
attribute [local go_sem] max2_int min2_int max_two min_two max_three min_three max_four min_four   -- for this text's walks alone
set_option linter.unusedVariables false
set_option linter.unusedSimpArgs false

/-! ### rookerylaw15_LexMany: function 8 -/
mutual
def rookerylaw15_LexMany.j0 : Nat → Int → Bool → Bool → Option (Bool)
  | 0, _, _, _ => none
  | k + 1, x0, x1, x19 => if x19 = true then (some true) else (if x1 = true then (rookerylaw15_LexMany.j1 k (wrap64 (Int.tdiv x0 2)) x1 (⟨#[44, 44]⟩ : ByteArray)) else (rookerylaw15_LexMany.j1 k x0 x1 (⟨#[97, 32]⟩ : ByteArray)))
def rookerylaw15_LexMany.j1 : Nat → Int → Bool → ByteArray → Option (Bool)
  | 0, _, _, _ => none
  | k + 1, x0, x1, x5 => rookerylaw15_LexMany.l0 k x0 x1 x5 (([] : List Int)) 0
def rookerylaw15_LexMany.l0 : Nat → Int → Bool → ByteArray → List Int → Int → Option (Bool)
  | 0, _, _, _, _, _ => none
  | k + 1, x0, x1, x5, x6, x7 => if x7 < x0 then (if x6.length + x5.size < 140737488355328 then (rookerylaw15_LexMany.l0 k x0 x1 x5 (x6 ++ bytesOf x5) (wrap64 (x7 + 1))) else (none)) else ((lex_Scan.f k (strOfNums x6)).bind fun bt296 => (if x1 = true then (rookerylaw15_LexMany.j3 k (wrap64 (2 * x0)) x1 bt296.1 bt296.2.1 bt296.2.2) else (rookerylaw15_LexMany.j3 k x0 x1 bt296.1 bt296.2.1 bt296.2.2)))
def rookerylaw15_LexMany.j3 : Nat → Int → Bool → List (S33) → Int → Int → Option (Bool)
  | 0, _, _, _, _, _ => none
  | k + 1, x0, x1, x8, x9, x10 => if x0 ≤ 4000 then (if (x8.length : Int) = x0 then (if x10 = 0 then (some (x9 == 0)) else (some false)) else (some false)) else (if x1 = true then (if (x8.length : Int) = 0 then (if x10 = 155 then (some (x9 == 4000)) else (some false)) else (some false)) else (if (x8.length : Int) = 0 then (if x10 = 155 then (some (x9 == 8000)) else (some false)) else (some false)))
end
def rookerylaw15_LexMany.f (k : Nat) (a0 : Int) (a1 : Bool) : Option (Bool) := (rookerylaw15_alive.f k).bind fun t289 => (if t289 = true then (if a0 < 0 then (rookerylaw15_LexMany.j0 k a0 a1 true) else (rookerylaw15_LexMany.j0 k a0 a1 (decide (a0 > 8000)))) else (some false))
theorem rookerylaw15_LexMany.mono_l : ∀ k, (∀ y0 y1 y2, LeO (rookerylaw15_LexMany.j0 k y0 y1 y2) (rookerylaw15_LexMany.j0 (k + 1) y0 y1 y2)) ∧ (∀ y0 y1 y2, LeO (rookerylaw15_LexMany.j1 k y0 y1 y2) (rookerylaw15_LexMany.j1 (k + 1) y0 y1 y2)) ∧ (∀ y0 y1 y2 y3 y4, LeO (rookerylaw15_LexMany.l0 k y0 y1 y2 y3 y4) (rookerylaw15_LexMany.l0 (k + 1) y0 y1 y2 y3 y4)) ∧ (∀ y0 y1 y2 y3 y4, LeO (rookerylaw15_LexMany.j3 k y0 y1 y2 y3 y4) (rookerylaw15_LexMany.j3 (k + 1) y0 y1 y2 y3 y4))
  | 0 => ⟨fun _ _ _ r h => by simp [rookerylaw15_LexMany.j0] at h, fun _ _ _ r h => by simp [rookerylaw15_LexMany.j1] at h, fun _ _ _ _ _ r h => by simp [rookerylaw15_LexMany.l0] at h, fun _ _ _ _ _ r h => by simp [rookerylaw15_LexMany.j3] at h⟩
  | k + 1 => by
    obtain ⟨ih0, ih1, ih2, ih3⟩ := rookerylaw15_LexMany.mono_l k
    refine ⟨?_, ?_, ?_, ?_⟩
    · intro y0 y1 y2
      unfold rookerylaw15_LexMany.j0
      repeat' first
      | (with_reducible exact ih0 _ _ _)
      | (with_reducible exact ih1 _ _ _)
      | (with_reducible exact ih2 _ _ _ _ _)
      | (with_reducible exact ih3 _ _ _ _ _)
      | (with_reducible exact lex_Scan.mono _ _)
      | (with_reducible exact rookerylaw15_alive.mono _)
      | (with_reducible exact LeO.refl _)
      | (with_reducible exact LeO.none _)
      | (with_reducible refine LeO.ite ?_ ?_)
      | (with_reducible refine LeO.bind ?_ (fun _ => ?_))
      | exact ih0 _ _ _
      | exact ih1 _ _ _
      | exact ih2 _ _ _ _ _
      | exact ih3 _ _ _ _ _
      | exact lex_Scan.mono _ _
      | exact rookerylaw15_alive.mono _
      | exact LeO.none _
      | refine LeO.ite ?_ ?_
      | refine LeO.bind ?_ (fun _ => ?_)
    · intro y0 y1 y2
      unfold rookerylaw15_LexMany.j1
      repeat' first
      | (with_reducible exact ih0 _ _ _)
      | (with_reducible exact ih1 _ _ _)
      | (with_reducible exact ih2 _ _ _ _ _)
      | (with_reducible exact ih3 _ _ _ _ _)
      | (with_reducible exact lex_Scan.mono _ _)
      | (with_reducible exact rookerylaw15_alive.mono _)
      | (with_reducible exact LeO.refl _)
      | (with_reducible exact LeO.none _)
      | (with_reducible refine LeO.ite ?_ ?_)
      | (with_reducible refine LeO.bind ?_ (fun _ => ?_))
      | exact ih0 _ _ _
      | exact ih1 _ _ _
      | exact ih2 _ _ _ _ _
      | exact ih3 _ _ _ _ _
      | exact lex_Scan.mono _ _
      | exact rookerylaw15_alive.mono _
      | exact LeO.none _
      | refine LeO.ite ?_ ?_
      | refine LeO.bind ?_ (fun _ => ?_)
    · intro y0 y1 y2 y3 y4
      unfold rookerylaw15_LexMany.l0
      repeat' first
      | (with_reducible exact ih0 _ _ _)
      | (with_reducible exact ih1 _ _ _)
      | (with_reducible exact ih2 _ _ _ _ _)
      | (with_reducible exact ih3 _ _ _ _ _)
      | (with_reducible exact lex_Scan.mono _ _)
      | (with_reducible exact rookerylaw15_alive.mono _)
      | (with_reducible exact LeO.refl _)
      | (with_reducible exact LeO.none _)
      | (with_reducible refine LeO.ite ?_ ?_)
      | (with_reducible refine LeO.bind ?_ (fun _ => ?_))
      | exact ih0 _ _ _
      | exact ih1 _ _ _
      | exact ih2 _ _ _ _ _
      | exact ih3 _ _ _ _ _
      | exact lex_Scan.mono _ _
      | exact rookerylaw15_alive.mono _
      | exact LeO.none _
      | refine LeO.ite ?_ ?_
      | refine LeO.bind ?_ (fun _ => ?_)
    · intro y0 y1 y2 y3 y4
      unfold rookerylaw15_LexMany.j3
      repeat' first
      | (with_reducible exact ih0 _ _ _)
      | (with_reducible exact ih1 _ _ _)
      | (with_reducible exact ih2 _ _ _ _ _)
      | (with_reducible exact ih3 _ _ _ _ _)
      | (with_reducible exact lex_Scan.mono _ _)
      | (with_reducible exact rookerylaw15_alive.mono _)
      | (with_reducible exact LeO.refl _)
      | (with_reducible exact LeO.none _)
      | (with_reducible refine LeO.ite ?_ ?_)
      | (with_reducible refine LeO.bind ?_ (fun _ => ?_))
      | exact ih0 _ _ _
      | exact ih1 _ _ _
      | exact ih2 _ _ _ _ _
      | exact ih3 _ _ _ _ _
      | exact lex_Scan.mono _ _
      | exact rookerylaw15_alive.mono _
      | exact LeO.none _
      | refine LeO.ite ?_ ?_
      | refine LeO.bind ?_ (fun _ => ?_)
theorem rookerylaw15_LexMany.mono : ∀ a0 a1 k, LeO (rookerylaw15_LexMany.f k a0 a1) (rookerylaw15_LexMany.f (k + 1) a0 a1) := by
  intro a0 a1 k
  obtain ⟨ih0, ih1, ih2, ih3⟩ := rookerylaw15_LexMany.mono_l k
  unfold rookerylaw15_LexMany.f
  repeat' first
      | (with_reducible exact ih0 _ _ _)
      | (with_reducible exact ih1 _ _ _)
      | (with_reducible exact ih2 _ _ _ _ _)
      | (with_reducible exact ih3 _ _ _ _ _)
      | (with_reducible exact lex_Scan.mono _ _)
      | (with_reducible exact rookerylaw15_alive.mono _)
      | (with_reducible exact LeO.refl _)
      | (with_reducible exact LeO.none _)
      | (with_reducible refine LeO.ite ?_ ?_)
      | (with_reducible refine LeO.bind ?_ (fun _ => ?_))
      | exact ih0 _ _ _
      | exact ih1 _ _ _
      | exact ih2 _ _ _ _ _
      | exact ih3 _ _ _ _ _
      | exact lex_Scan.mono _ _
      | exact rookerylaw15_alive.mono _
      | exact LeO.none _
      | refine LeO.ite ?_ ?_
      | refine LeO.bind ?_ (fun _ => ?_)
set_option maxHeartbeats 8000000 in
set_option maxRecDepth 100000 in
theorem rookerylaw15_LexMany.calls (k : Nat) (a0 : Int) (a1 : Bool) (r : Bool) (w : World) (hG : Glob w) (h : rookerylaw15_LexMany.f k a0 a1 = some r) :
    Calls Tryd.prog 8 #[.int .i64 a0, .bool a1] w fun e w' => e = .returned (.bool r) ∧ Below w.heap.size w w' := by
  have HB := Aside0.mk (Below.refl w.heap.size w)
  have H : ((rookerylaw15_alive.f k).bind fun t289 => (if t289 = true then (if a0 < 0 then (rookerylaw15_LexMany.j0 k a0 a1 true) else (rookerylaw15_LexMany.j0 k a0 a1 (decide (a0 > 8000)))) else (some false))) = some r := h
  clear h
  replace H := Option.bind_eq_some_iff.mp H
  obtain ⟨t289, A30, H⟩ := H
  replace H : (if t289 = true then (if a0 < 0 then (rookerylaw15_LexMany.j0 k a0 a1 true) else (rookerylaw15_LexMany.j0 k a0 a1 (decide (a0 > 8000)))) else (some false)) = some r := H
  have A3 := Aside0.mk A30
  clear A30
  by_cases c4 : t289 = true
  · subst c4
    have H1 : (if a0 < 0 then (rookerylaw15_LexMany.j0 k a0 a1 true) else (rookerylaw15_LexMany.j0 k a0 a1 (decide (a0 > 8000)))) = some r := by rw [if_pos rfl] at H; exact H
    clear H
    have H := H1
    clear H1
    have HC5 := Aside0.mk H
    clear H
    go_enter Tryd.func8, Tryd.ntmps8
    go_upto_region 3 with (first | ((with_reducible refine gate_callee (f := 13) rfl ?_); refine goesL_ (some 12) rfl rfl Tryd.func13 (by kernel_rfl) rfl #[] rfl (by (try simp only [List.map_toArray, List.map_cons, List.map_nil]); first | done | rfl | (simp only [List.length_drop, List.length_take]; rfl)) ?_; (with_reducible refine (rookerylaw15_alive.calls k  true _ ?side1 A3.out).mono ?_); (case side1 => first | exact hG | exact hG.drewN _ | exact hG.drew | exact hG.below (by repeat (first | (with_reducible first | exact HB.out | apply below_alloc | apply pw_below_drewN | apply below_drew1) | exact HB.out)) | (refine hG.below ?_; (repeat (first | (with_reducible exact Below.refl _ _) | (with_reducible refine pw_below_drewN ?_ _) | (with_reducible refine below_drew ?_) | (with_reducible refine below_alloc ?_ _))))); rintro e w6 ⟨rfl, hb⟩; refine ⟨_, rfl, ?_⟩; have n0_ := Aside0.mk (below_step (by repeat (first | (with_reducible first | exact HB.out | apply below_alloc | apply pw_below_drewN | apply below_drew1) | exact HB.out)) hb); clear HB; have HB := n0_; clear n0_; (try clear hb); (try clear hb2); (try clear hk); (try clear hi)))
    (try simp only [Act.put, List.setIfInBounds_toArray, List.set_cons_zero, List.set_cons_succ])
    go_cut [19] (fun v19 wc => ∃ (kq : Nat) (x19_4 : Bool), v19 = .bool x19_4 ∧ Aside0 (rookerylaw15_LexMany.j0 kq a0 a1 x19_4 = some r) ∧ Aside0 (kq ≤ k) ∧ Aside0 (Below w.heap.size w wc))
    case first =>
      have H := HC5.out
      clear HC5
      by_cases c7 : a0 < 0
      · rw [if_pos c7] at H
        have c7b0 : decide (a0 < 0) = true := decide_eq_true c7
        clear c7
        (first | rw [c7b0] | (simp only [i64_w, i32_w]; rw [c7b0]) | skip)
        have H' := Aside0.mk H
        clear H
        go_wp2
        go_meet
        case rel => exact ⟨_, (true), (by first | rfl | (simp; done) | (simp [*]; done)), H', ⟨by first | omega | exact Nat.le_refl _⟩, ⟨by repeat (first | (with_reducible first | exact HB.out | apply below_alloc | apply pw_below_drewN | apply below_drew1) | exact HB.out)⟩⟩
      · rw [if_neg c7] at H
        have c7b0 : decide (a0 < 0) = false := decide_eq_false c7
        clear c7
        (first | rw [c7b0] | (simp only [i64_w, i32_w]; rw [c7b0]) | skip)
        have H' := Aside0.mk H
        clear H
        go_wp2
        go_meet
        case rel => exact ⟨_, (decide (a0 > 8000)), (by first | rfl | (simp; done) | (simp [*]; done)), H', ⟨by first | omega | exact Nat.le_refl _⟩, ⟨by repeat (first | (with_reducible first | exact HB.out | apply below_alloc | apply pw_below_drewN | apply below_drew1) | exact HB.out)⟩⟩
    case rest =>
      clear HC5
      try clear c1
      try clear p2
      try clear c4
      try clear c7
      try clear c7b0
      obtain ⟨kq, x19_4, rfl, HA, HJ4, HB⟩ := hcut
      cases kq with
      | zero => exact absurd HA.out (by simp [rookerylaw15_LexMany.j0])
      | succ kj4 =>
        have H := HA.out
        clear HA
        simp only [rookerylaw15_LexMany.j0] at H
        by_cases c8 : x19_4 = true
        · subst c8
          have H1 : (some true) = some r := by rw [if_pos rfl] at H; exact H
          clear H
          have H := H1
          clear H1
          obtain rfl := Option.some.inj H
          go_wp2
          go_ret
          exact ⟨by first | rfl | (simp [errW_none, errW_some] <;> rfl) | (simp [*, errW_none, errW_some] <;> rfl), by repeat (first | (with_reducible first | exact HB.out | apply below_alloc | apply pw_below_drewN | apply below_drew1) | exact HB.out)⟩
        · replace c8 := Bool.eq_false_iff.mpr c8
          subst c8
          have H1 : (if a1 = true then (rookerylaw15_LexMany.j1 kj4 (wrap64 (Int.tdiv a0 2)) a1 (⟨#[44, 44]⟩ : ByteArray)) else (rookerylaw15_LexMany.j1 kj4 a0 a1 (⟨#[97, 32]⟩ : ByteArray))) = some r := by rw [if_neg (show ¬ (false = true) by decide)] at H; exact H
          clear H
          have H := H1
          clear H1
          have HC9 := Aside0.mk H
          clear H
          go_upto_if 20 with (fail)
          go_cut [0, 5] (fun v0 v5 wc => ∃ (kq : Nat) (x0_8 : Int) (x5_8 : ByteArray), v0 = .int .i64 x0_8 ∧ v5 = .string x5_8 ∧ Aside0 (rookerylaw15_LexMany.j1 kq x0_8 a1 x5_8 = some r) ∧ Aside0 (kq ≤ kj4) ∧ Aside0 (Below w.heap.size w wc))
          case first =>
            have H := HC9.out
            clear HC9
            by_cases c10 : a1 = true
            · subst c10
              have H1 : (rookerylaw15_LexMany.j1 kj4 (wrap64 (Int.tdiv a0 2)) true (⟨#[44, 44]⟩ : ByteArray)) = some r := by rw [if_pos rfl] at H; exact H
              clear H
              have H := H1
              clear H1
              have H' := Aside0.mk H
              clear H
              go_wp2
              go_meet
              case rel => exact ⟨_, (wrap64 (Int.tdiv a0 2)), ((⟨#[44, 44]⟩ : ByteArray)), (by first | rfl | (simp; done) | (simp [*]; done)), (by first | rfl | (simp; done) | (simp [*]; done)), H', ⟨by have := HJ4.out; first | omega | exact Nat.le_refl _⟩, ⟨by repeat (first | (with_reducible first | exact HB.out | apply below_alloc | apply pw_below_drewN | apply below_drew1) | exact HB.out)⟩⟩
            · replace c10 := Bool.eq_false_iff.mpr c10
              subst c10
              have H1 : (rookerylaw15_LexMany.j1 kj4 a0 false (⟨#[97, 32]⟩ : ByteArray)) = some r := by rw [if_neg (show ¬ (false = true) by decide)] at H; exact H
              clear H
              have H := H1
              clear H1
              have H' := Aside0.mk H
              clear H
              go_wp2
              go_meet
              case rel => exact ⟨_, (a0), ((⟨#[97, 32]⟩ : ByteArray)), (by first | rfl | (simp; done) | (simp [*]; done)), (by first | rfl | (simp; done) | (simp [*]; done)), H', ⟨by have := HJ4.out; first | omega | exact Nat.le_refl _⟩, ⟨by repeat (first | (with_reducible first | exact HB.out | apply below_alloc | apply pw_below_drewN | apply below_drew1) | exact HB.out)⟩⟩
          case rest =>
            clear HC9
            try clear c1
            try clear p2
            try clear c4
            try clear p6
            try clear c7
            try clear c7b0
            try clear c8
            try clear c10
            try clear p2
            obtain ⟨kq, x0_8, x5_8, rfl, rfl, HA, HJ8, HB⟩ := hcut
            cases kq with
            | zero => exact absurd HA.out (by simp [rookerylaw15_LexMany.j1])
            | succ kj8 =>
              have H := HA.out
              clear HA
              simp only [rookerylaw15_LexMany.j1] at H
              obtain ⟨y290, hy290⟩ : ∃ y_ : List Int, y_ = (([] : List Int)) := ⟨_, rfl⟩
              replace H : (rookerylaw15_LexMany.l0 kj8 x0_8 a1 x5_8 y290 0) = some r := by first | (rw [hy290]; with_reducible exact H) | (have H2_ := (Option.bind_some _ _).symm.trans H; rw [hy290]; with_reducible exact H2_) | (have H2_ := (Option.bind_some _ _).symm.trans H; with_reducible exact H2_) | with_reducible exact H | (rw [hy290]; exact H) | exact H
              have Ny290 := Aside0.mk hy290
              clear hy290
              have H' := Aside0.mk H
              clear H
              go_wp2_with (first | ((with_reducible refine gate_dst (N := 23) rfl ?_); refine Kd.R_lit (Kd.int .u8) _ 5 ?hg (N := 23) ?hd (xs := ([] : List Int)) (inner := []) (ok := fun _ => True) (okp := fun _ => True) ?hr ?hp (fun _ hk => hk) trivial (Below.refl _ _) (Nat.le_refl _) (by simp) ?_; (case hd => rfl); (case hg => rfl); (case hr => first | (go_simp; done) | (go_simp; rfl)); (case hp => exact (Reps.none _ _)); intro v291 w11 ho12 hb hg_ hnew_; clear hg_ hnew_; (first | rw [← Ny290.out] at ho12 | (simp only [Int.reduceToNat] at ho12; rw [← Ny290.out] at ho12)); have n0_ := Aside0.mk (Kd.R_lower ho12 (below_size (by repeat (first | (with_reducible first | exact HB.out | apply below_alloc | apply pw_below_drewN | apply below_drew1) | exact HB.out)))); have n1_ := Aside0.mk (below_step (by repeat (first | (with_reducible first | exact HB.out | apply below_alloc | apply pw_below_drewN | apply below_drew1) | exact HB.out)) hb); clear HB; have HO292 := n0_; have HB := n1_; clear n0_ n1_; clear hb ho12))
              go_loopg [6, 7] kj8 (fun kq v6 v7 w' => ∃ (x6_3 : List Int) (x7_3 : Int), v7 = .int .i64 x7_3 ∧ Aside0 (rookerylaw15_LexMany.l0 kq x0_8 a1 x5_8 x6_3 x7_3 = some r) ∧ Aside0 (kq ≤ kj8) ∧ Aside0 (Kd.R (Kd.int .u8) 5 w' w.heap.size (fun _ => True) v6 x6_3) ∧ Aside0 (Below w.heap.size w w'))
              case atStart => exact ⟨(y290), (0), (by first | rfl | (simp; done) | (simp [*]; done)), H', ⟨Nat.le_refl _⟩, ⟨by (with_reducible repeat (first | apply Kd.R_alloc | apply Kd.R_drewN | apply Kd.R_drew)); exact HO292.out⟩, ⟨by repeat (first | (with_reducible first | exact HB.out | apply below_alloc | apply pw_below_drewN | apply below_drew1) | exact HB.out)⟩⟩
              case round =>
                clear H'
                try clear c1
                try clear p2
                try clear c4
                try clear p6
                try clear c7
                try clear c7b0
                try clear c8
                try clear c10
                try clear p2
                try clear p6
                obtain ⟨x6_3, x7_3, rfl, HA, HK3, HO_6, HB⟩ := hrel
                cases gk with
                | zero => exact absurd HA.out (by simp [rookerylaw15_LexMany.l0])
                | succ k3 =>
                  have H := HA.out
                  clear HA
                  simp only [rookerylaw15_LexMany.l0] at H
                  by_cases c13 : x7_3 < x0_8
                  · rw [if_pos c13] at H
                    have c13b0 : decide (x7_3 < x0_8) = true := decide_eq_true c13
                    clear c13
                    by_cases c14 : x6_3.length + x5_8.size < 140737488355328
                    · rw [if_pos c14] at H
                      have LMc14 := Aside0.mk c14
                      clear c14
                      obtain ⟨y293, hy293⟩ : ∃ y_ : List Int, y_ = (x6_3 ++ bytesOf x5_8) := ⟨_, rfl⟩
                      replace H : (rookerylaw15_LexMany.l0 k3 x0_8 a1 x5_8 y293 (wrap64 (x7_3 + 1))) = some r := by first | (rw [hy293]; with_reducible exact H) | (have H2_ := (Option.bind_some _ _).symm.trans H; rw [hy293]; with_reducible exact H2_) | (have H2_ := (Option.bind_some _ _).symm.trans H; with_reducible exact H2_) | with_reducible exact H | (rw [hy293]; exact H) | exact H
                      have Ny293 := Aside0.mk hy293
                      clear hy293
                      have H' := Aside0.mk H
                      clear H
                      go_wp2_with (first | (at_builtin; refine print_append_str (w0 := w) w.heap.size rfl (.tmp 29) _ 31 9 5 rfl Tryd.underlying31 Tryd.underlying9 info5 u6 x6_3 x5_8 rfl rfl ?aO ?aB ?aS ?aL ?_; (case aB => exact (by repeat (first | (with_reducible first | exact HB.out | apply below_alloc | apply pw_below_drewN | apply below_drew1) | exact HB.out))); (case aO => exact (Kd.own_of_R (by (with_reducible repeat (first | apply Kd.R_alloc | apply Kd.R_drewN | apply Kd.R_drew)); exact HO_6.out))); (case aS => exact (below_size (by repeat (first | (with_reducible first | exact HB.out | apply below_alloc | apply pw_below_drewN | apply below_drew1) | exact HB.out)))); (case aL => have := LMc14.out; omega); intro v294 w15 ho0 hb hg; have ho := Kd.R_of_own (h1 := fun _ => rfl) (ok := fun _ => True) ho0 (fun _ _ => trivial); clear ho0; have hat := True.intro; rw [← Ny293.out] at ho; change Kd.R (Kd.int .u8) 5 w15 w.heap.size (fun _ => True) v294 y293 at ho; have n0_ := Aside0.mk (hb); have n1_ := Aside0.mk (ho); clear HB; clear HO_6; have HB := n0_; have HO295 := n1_; clear n0_ n1_; clear ho hb hg hat))
                      go_roundg k3
                      case measure => have := HJ4.out; have := HJ8.out; have := HK3.out; omega
                      case rel => exact ⟨(y293), (wrap64 (x7_3 + 1)), (by first | rfl | (simp; done) | (simp [*]; done)), H', ⟨by have := HJ4.out; have := HJ8.out; have := HK3.out; omega⟩, ⟨by (with_reducible repeat (first | apply Kd.R_alloc | apply Kd.R_drewN | apply Kd.R_drew)); exact HO295.out⟩, ⟨by repeat (first | (with_reducible first | exact HB.out | apply below_alloc | apply pw_below_drewN | apply below_drew1) | exact HB.out)⟩⟩
                    · rw [if_neg c14] at H
                      exact absurd H (by simp)
                  · rw [if_neg c13] at H
                    have c13b0 : decide (x7_3 < x0_8) = false := decide_eq_false c13
                    clear c13
                    replace H := Option.bind_eq_some_iff.mp H
                    obtain ⟨⟨t296, t297, t298⟩, A160, H⟩ := H
                    replace H : (if a1 = true then (rookerylaw15_LexMany.j3 k3 (wrap64 (2 * x0_8)) a1 t296 t297 t298) else (rookerylaw15_LexMany.j3 k3 x0_8 a1 t296 t297 t298)) = some r := H
                    have A16 := Aside0.mk A160
                    clear A160
                    have HC17 := Aside0.mk H
                    clear H
                    have hcv18 := own_string (P := Tryd.prog) Tryd.underlying31 Tryd.underlying5 Tryd.underlying9 (Kd.own_of_R HO_6.out)
                    go_upto_if 39 with (first | ((with_reducible refine gate_callee (f := 14) rfl ?_); refine goesL_ (some 35) rfl rfl Tryd.func14 (by kernel_rfl) rfl #[.string (strOfNums x6_3)] rfl (by (try simp only [List.map_toArray, List.map_cons, List.map_nil]); first | done | rfl | (simp only [List.length_drop, List.length_take]; rfl)) ?_; (with_reducible refine (lex_Scan.calls k3 (strOfNums x6_3) t296 t297 t298 _ ?side1 A16.out).mono ?_); (case side1 => first | exact hG | exact hG.drewN _ | exact hG.drew | exact hG.below (by repeat (first | (with_reducible first | exact HB.out | apply below_alloc | apply pw_below_drewN | apply below_drew1) | exact HB.out)) | (refine hG.below ?_; (repeat (first | (with_reducible exact Below.refl _ _) | (with_reducible refine pw_below_drewN ?_ _) | (with_reducible refine below_drew ?_) | (with_reducible refine below_alloc ?_ _))))); rintro e w19 ⟨v299, rfl, ho0, hb⟩; refine ⟨_, rfl, ?_⟩; have n0_ := Aside0.mk (Kd.R_below (by (with_reducible repeat (first | apply Kd.R_alloc | apply Kd.R_drewN | apply Kd.R_drew)); exact HO_6.out) hb); have n1_ := Aside0.mk (Kd.S_lower (Kd.S_new' ho0 (Kd.R_lt (by (with_reducible repeat (first | apply Kd.R_alloc | apply Kd.R_drewN | apply Kd.R_drew)); exact HO_6.out))) (below_size (by repeat (first | (with_reducible first | exact HB.out | apply below_alloc | apply pw_below_drewN | apply below_drew1) | exact HB.out)))); have n2_ := Aside0.mk (below_step (by repeat (first | (with_reducible first | exact HB.out | apply below_alloc | apply pw_below_drewN | apply below_drew1) | exact HB.out)) hb); clear HO_6; clear HB; have HO_6 := n0_; have HO300 := n1_; have HB := n2_; clear n0_ n1_ n2_; (try clear hb); (try clear hb2); (try clear hk); (try clear hi); (try clear ho0)))
                    (try simp only [Act.put, List.setIfInBounds_toArray, List.set_cons_zero, List.set_cons_succ])
                    go_cut [0] (fun v0 wc => ∃ (kq : Nat) (x0_16 : Int), v0 = .int .i64 x0_16 ∧ Aside0 (rookerylaw15_LexMany.j3 kq x0_16 a1 t296 t297 t298 = some r) ∧ Aside0 (kq ≤ k3) ∧ Aside0 (Kd.S k33 33 wc w.heap.size (fun _ => True) v299 t296) ∧ Aside0 (Below w.heap.size w wc))
                    case first =>
                      have H := HC17.out
                      clear HC17
                      by_cases c20 : a1 = true
                      · subst c20
                        have H1 : (rookerylaw15_LexMany.j3 k3 (wrap64 (2 * x0_8)) true t296 t297 t298) = some r := by rw [if_pos rfl] at H; exact H
                        clear H
                        have H := H1
                        clear H1
                        have H' := Aside0.mk H
                        clear H
                        go_wp2
                        go_meet
                        case rel => exact ⟨_, (wrap64 (2 * x0_8)), (by first | rfl | (simp; done) | (simp [*]; done)), H', ⟨by have := HJ4.out; have := HJ8.out; have := HK3.out; first | omega | exact Nat.le_refl _⟩, ⟨by (with_reducible repeat (first | apply Kd.S_alloc | apply Kd.S_drewN | apply Kd.S_drew)); exact Kd.S_mono HO300.out (fun _ hk => trivial)⟩, ⟨by repeat (first | (with_reducible first | exact HB.out | apply below_alloc | apply pw_below_drewN | apply below_drew1) | exact HB.out)⟩⟩
                      · replace c20 := Bool.eq_false_iff.mpr c20
                        subst c20
                        have H1 : (rookerylaw15_LexMany.j3 k3 x0_8 false t296 t297 t298) = some r := by rw [if_neg (show ¬ (false = true) by decide)] at H; exact H
                        clear H
                        have H := H1
                        clear H1
                        have H' := Aside0.mk H
                        clear H
                        go_wp2
                        go_meet
                        case rel => exact ⟨_, (x0_8), (by first | rfl | (simp; done) | (simp [*]; done)), H', ⟨by have := HJ4.out; have := HJ8.out; have := HK3.out; first | omega | exact Nat.le_refl _⟩, ⟨by (with_reducible repeat (first | apply Kd.S_alloc | apply Kd.S_drewN | apply Kd.S_drew)); exact Kd.S_mono HO300.out (fun _ hk => trivial)⟩, ⟨by repeat (first | (with_reducible first | exact HB.out | apply below_alloc | apply pw_below_drewN | apply below_drew1) | exact HB.out)⟩⟩
                    case rest =>
                      clear HC17
                      try clear c1
                      try clear hcv1
                      try clear c2
                      try clear p2
                      try clear c4
                      try clear p6
                      try clear c7
                      try clear c7b0
                      try clear c8
                      try clear c10
                      try clear c13
                      try clear c13b0
                      try clear c14
                      try clear hcv18
                      try clear c20
                      try clear p2
                      try clear p6
                      obtain ⟨kq, x0_16, rfl, HA, HJ16, HO_8, HB⟩ := hcut
                      cases kq with
                      | zero => exact absurd HA.out (by simp [rookerylaw15_LexMany.j3])
                      | succ kj16 =>
                        have H := HA.out
                        clear HA
                        simp only [rookerylaw15_LexMany.j3] at H
                        by_cases c21 : x0_16 ≤ 4000
                        · rw [if_pos c21] at H
                          have c21b0 : decide (x0_16 ≤ 4000) = true := decide_eq_true c21
                          clear c21
                          by_cases c22 : (t296.length : Int) = x0_16
                          · rw [if_pos c22] at H
                            have c22b0 : ((t296.length : Int) == x0_16) = true := beq_iff_eq.mpr c22
                            have c22b1 : ((t296.length : Int) != x0_16) = false := bne_eq_false_iff_eq.mpr c22
                            clear c22
                            by_cases c23 : t298 = 0
                            · rw [if_pos c23] at H
                              have c23b0 : (t298 == 0) = true := beq_iff_eq.mpr c23
                              have c23b1 : (t298 != 0) = false := bne_eq_false_iff_eq.mpr c23
                              clear c23
                              obtain rfl := Option.some.inj H
                              obtain ⟨Ao24, co24, eo24⟩ := Kd.S_slice HO_8.out
                              subst eo24
                              go_wp2
                              go_ret
                              exact ⟨by first | rfl | (simp [errW_none, errW_some] <;> rfl) | (simp [*, errW_none, errW_some] <;> rfl), by repeat (first | (with_reducible first | exact HB.out | apply below_alloc | apply pw_below_drewN | apply below_drew1) | exact HB.out)⟩
                            · rw [if_neg c23] at H
                              have c23b0 : (t298 == 0) = false := beq_eq_false_iff_ne.mpr c23
                              have c23b1 : (t298 != 0) = true := bne_iff_ne.mpr c23
                              obtain rfl := Option.some.inj H
                              obtain ⟨Ao25, co25, eo25⟩ := Kd.S_slice HO_8.out
                              subst eo25
                              go_wp2
                              go_ret
                              exact ⟨by first | rfl | (simp [errW_none, errW_some] <;> rfl) | (simp [*, errW_none, errW_some] <;> rfl), by repeat (first | (with_reducible first | exact HB.out | apply below_alloc | apply pw_below_drewN | apply below_drew1) | exact HB.out)⟩
                          · rw [if_neg c22] at H
                            have c22b0 : ((t296.length : Int) == x0_16) = false := beq_eq_false_iff_ne.mpr c22
                            have c22b1 : ((t296.length : Int) != x0_16) = true := bne_iff_ne.mpr c22
                            obtain rfl := Option.some.inj H
                            obtain ⟨Ao26, co26, eo26⟩ := Kd.S_slice HO_8.out
                            subst eo26
                            go_wp2
                            go_ret
                            exact ⟨by first | rfl | (simp [errW_none, errW_some] <;> rfl) | (simp [*, errW_none, errW_some] <;> rfl), by repeat (first | (with_reducible first | exact HB.out | apply below_alloc | apply pw_below_drewN | apply below_drew1) | exact HB.out)⟩
                        · rw [if_neg c21] at H
                          have c21b0 : decide (x0_16 ≤ 4000) = false := decide_eq_false c21
                          clear c21
                          by_cases c27 : a1 = true
                          · subst c27
                            have H1 : (if (t296.length : Int) = 0 then (if t298 = 155 then (some (t297 == 4000)) else (some false)) else (some false)) = some r := by rw [if_pos rfl] at H; exact H
                            clear H
                            have H := H1
                            clear H1
                            by_cases c28 : (t296.length : Int) = 0
                            · rw [if_pos c28] at H
                              have c28b0 : ((t296.length : Int) == 0) = true := beq_iff_eq.mpr c28
                              have c28b1 : ((t296.length : Int) != 0) = false := bne_eq_false_iff_eq.mpr c28
                              clear c28
                              by_cases c29 : t298 = 155
                              · rw [if_pos c29] at H
                                have c29b0 : (t298 == 155) = true := beq_iff_eq.mpr c29
                                have c29b1 : (t298 != 155) = false := bne_eq_false_iff_eq.mpr c29
                                clear c29
                                obtain rfl := Option.some.inj H
                                obtain ⟨Ao30, co30, eo30⟩ := Kd.S_slice HO_8.out
                                subst eo30
                                go_wp2
                                go_ret
                                exact ⟨by first | rfl | (simp [errW_none, errW_some] <;> rfl) | (simp [*, errW_none, errW_some] <;> rfl), by repeat (first | (with_reducible first | exact HB.out | apply below_alloc | apply pw_below_drewN | apply below_drew1) | exact HB.out)⟩
                              · rw [if_neg c29] at H
                                have c29b0 : (t298 == 155) = false := beq_eq_false_iff_ne.mpr c29
                                have c29b1 : (t298 != 155) = true := bne_iff_ne.mpr c29
                                obtain rfl := Option.some.inj H
                                obtain ⟨Ao31, co31, eo31⟩ := Kd.S_slice HO_8.out
                                subst eo31
                                go_wp2
                                go_ret
                                exact ⟨by first | rfl | (simp [errW_none, errW_some] <;> rfl) | (simp [*, errW_none, errW_some] <;> rfl), by repeat (first | (with_reducible first | exact HB.out | apply below_alloc | apply pw_below_drewN | apply below_drew1) | exact HB.out)⟩
                            · rw [if_neg c28] at H
                              have c28b0 : ((t296.length : Int) == 0) = false := beq_eq_false_iff_ne.mpr c28
                              have c28b1 : ((t296.length : Int) != 0) = true := bne_iff_ne.mpr c28
                              have c28b2 : ¬ (t296 = []) := fun h_ => c28 (by rw [h_]; rfl)
                              obtain rfl := Option.some.inj H
                              obtain ⟨Ao32, co32, eo32⟩ := Kd.S_slice HO_8.out
                              subst eo32
                              go_wp2
                              go_ret
                              exact ⟨by first | rfl | (simp [errW_none, errW_some] <;> rfl) | (simp [*, errW_none, errW_some] <;> rfl), by repeat (first | (with_reducible first | exact HB.out | apply below_alloc | apply pw_below_drewN | apply below_drew1) | exact HB.out)⟩
                          · replace c27 := Bool.eq_false_iff.mpr c27
                            subst c27
                            have H1 : (if (t296.length : Int) = 0 then (if t298 = 155 then (some (t297 == 8000)) else (some false)) else (some false)) = some r := by rw [if_neg (show ¬ (false = true) by decide)] at H; exact H
                            clear H
                            have H := H1
                            clear H1
                            by_cases c33 : (t296.length : Int) = 0
                            · rw [if_pos c33] at H
                              have c33b0 : ((t296.length : Int) == 0) = true := beq_iff_eq.mpr c33
                              have c33b1 : ((t296.length : Int) != 0) = false := bne_eq_false_iff_eq.mpr c33
                              clear c33
                              by_cases c34 : t298 = 155
                              · rw [if_pos c34] at H
                                have c34b0 : (t298 == 155) = true := beq_iff_eq.mpr c34
                                have c34b1 : (t298 != 155) = false := bne_eq_false_iff_eq.mpr c34
                                clear c34
                                obtain rfl := Option.some.inj H
                                obtain ⟨Ao35, co35, eo35⟩ := Kd.S_slice HO_8.out
                                subst eo35
                                go_wp2
                                go_ret
                                exact ⟨by first | rfl | (simp [errW_none, errW_some] <;> rfl) | (simp [*, errW_none, errW_some] <;> rfl), by repeat (first | (with_reducible first | exact HB.out | apply below_alloc | apply pw_below_drewN | apply below_drew1) | exact HB.out)⟩
                              · rw [if_neg c34] at H
                                have c34b0 : (t298 == 155) = false := beq_eq_false_iff_ne.mpr c34
                                have c34b1 : (t298 != 155) = true := bne_iff_ne.mpr c34
                                obtain rfl := Option.some.inj H
                                obtain ⟨Ao36, co36, eo36⟩ := Kd.S_slice HO_8.out
                                subst eo36
                                go_wp2
                                go_ret
                                exact ⟨by first | rfl | (simp [errW_none, errW_some] <;> rfl) | (simp [*, errW_none, errW_some] <;> rfl), by repeat (first | (with_reducible first | exact HB.out | apply below_alloc | apply pw_below_drewN | apply below_drew1) | exact HB.out)⟩
                            · rw [if_neg c33] at H
                              have c33b0 : ((t296.length : Int) == 0) = false := beq_eq_false_iff_ne.mpr c33
                              have c33b1 : ((t296.length : Int) != 0) = true := bne_iff_ne.mpr c33
                              have c33b2 : ¬ (t296 = []) := fun h_ => c33 (by rw [h_]; rfl)
                              obtain rfl := Option.some.inj H
                              obtain ⟨Ao37, co37, eo37⟩ := Kd.S_slice HO_8.out
                              subst eo37
                              go_wp2
                              go_ret
                              exact ⟨by first | rfl | (simp [errW_none, errW_some] <;> rfl) | (simp [*, errW_none, errW_some] <;> rfl), by repeat (first | (with_reducible first | exact HB.out | apply below_alloc | apply pw_below_drewN | apply below_drew1) | exact HB.out)⟩
  · replace c4 := Bool.eq_false_iff.mpr c4
    subst c4
    have H1 : (some false) = some r := by rw [if_neg (show ¬ (false = true) by decide)] at H; exact H
    clear H
    have H := H1
    clear H1
    obtain rfl := Option.some.inj H
    go_enter Tryd.func8, Tryd.ntmps8
    go_wp2_with (first | ((with_reducible refine gate_callee (f := 13) rfl ?_); refine goesL_ (some 12) rfl rfl Tryd.func13 (by kernel_rfl) rfl #[] rfl (by (try simp only [List.map_toArray, List.map_cons, List.map_nil]); first | done | rfl | (simp only [List.length_drop, List.length_take]; rfl)) ?_; (with_reducible refine (rookerylaw15_alive.calls k  false _ ?side1 A3.out).mono ?_); (case side1 => first | exact hG | exact hG.drewN _ | exact hG.drew | exact hG.below (by repeat (first | (with_reducible first | exact HB.out | apply below_alloc | apply pw_below_drewN | apply below_drew1) | exact HB.out)) | (refine hG.below ?_; (repeat (first | (with_reducible exact Below.refl _ _) | (with_reducible refine pw_below_drewN ?_ _) | (with_reducible refine below_drew ?_) | (with_reducible refine below_alloc ?_ _))))); rintro e w38 ⟨rfl, hb⟩; refine ⟨_, rfl, ?_⟩; have n0_ := Aside0.mk (below_step (by repeat (first | (with_reducible first | exact HB.out | apply below_alloc | apply pw_below_drewN | apply below_drew1) | exact HB.out)) hb); clear HB; have HB := n0_; clear n0_; (try clear hb); (try clear hb2); (try clear hk); (try clear hi)))
    go_ret
    exact ⟨by first | rfl | (simp [errW_none, errW_some] <;> rfl) | (simp [*, errW_none, errW_some] <;> rfl), by repeat (first | (with_reducible first | exact HB.out | apply below_alloc | apply pw_below_drewN | apply below_drew1) | exact HB.out)⟩

/-- THE ONE PURE STATEMENT of rookerylaw15_LexMany: yours. -/
def rookerylaw15_LexMany.Pure : Prop := ∀ (a0 : Int) (a1 : Bool), (Lit.int .i64 a0).wf = true → ∃ k, rookerylaw15_LexMany.f k a0 a1 = some true
theorem rookerylaw15_LexMany.walk (P : rookerylaw15_LexMany.Pure) (a0 : Int) (a1 : Bool) (w : World) (w0 : (Lit.int .i64 a0).wf = true) (hG : Glob w) :
    Calls Tryd.prog 8 #[.int .i64 a0, .bool a1] w fun e w' => e = .returned (.bool true) ∧ Below w.heap.size w w' := by
  obtain ⟨k, h⟩ := P a0 a1 w0
  refine (rookerylaw15_LexMany.calls k a0 a1 true w hG h).mono ?_
  rintro e w' ⟨rfl, hd⟩
  exact ⟨rfl, hd⟩

end Go.Proofs.YtgkbmdlelcbmhaaDoor.PLex
