-- Written by a turned copy of the kit's printer (wip/patch_print.py), in this project; not trusted: Lean checks it.
import Derived.Test.YtgkbmdlelcbmhaaDoorPLexx0
import Derived.Test.YtgkbmdlelcbmhaaDoorPLexx3
namespace Go.Proofs.YtgkbmdlelcbmhaaDoor.PLex
open Go.RowKit Go.Proofs.YtgkbmdlelcbmhaaDoorW.PrintWords Go.Proofs.YtgkbmdlelcbmhaaDoorW.PrintLast Go.Proofs.YtgkbmdlelcbmhaaDoorW.PrintMore
attribute [local go_sem] max2_int min2_int max_two min_two max_three min_three max_four min_four   -- for this text's walks alone
set_option linter.unusedVariables false
set_option linter.unusedSimpArgs false

/-! ### rookeryref15_text: function 58 -/
mutual
def rookeryref15_text.l0 : Nat → ByteArray → Int → Int → ByteArray → Int → List Int → Int → Option (Int × ByteArray × Int × List Int × Int × Int × Int)
  | 0, _, _, _, _, _, _, _ => none
  | k + 1, x0, x8, x173000, x173001, x173002, x173003, x173004 => if x8 < (x0.size : Int) then (if 0 ≤ x8 then (if (bt x0 x8) = 34 then (some (x173000, x173001, x173002, x173003, x173004, wrap64 (x8 + 1), 0)) else ((rookeryref15_between.f (bt x0 x8) 32 126).bind fun t173 => (if t173 = true then (if (bt x0 x8) = 92 then (if (wrap64 (x8 + 1)) = (x0.size : Int) then (some (0, (⟨#[]⟩ : ByteArray), 0, ([] : List Int), 0, wrap64 (x8 + 1), 154)) else (if 0 ≤ (wrap64 (x8 + 1)) then (if (wrap64 (x8 + 1)) < (x0.size : Int) then (if (bt x0 (wrap64 (x8 + 1))) = 110 then (if x173003.length < 140737488355328 then (rookeryref15_text.l0 k x0 (wrap64 ((wrap64 (x8 + 1)) + 1)) x173000 x173001 x173002 (x173003 ++ [10]) x173004) else (none)) else (if (bt x0 (wrap64 (x8 + 1))) = 116 then (if x173003.length < 140737488355328 then (rookeryref15_text.l0 k x0 (wrap64 ((wrap64 (x8 + 1)) + 1)) x173000 x173001 x173002 (x173003 ++ [9]) x173004) else (none)) else (if (bt x0 (wrap64 (x8 + 1))) = 34 then (rookeryref15_text.j1 k x0 (wrap64 (x8 + 1)) (bt x0 (wrap64 (x8 + 1))) ((bt x0 (wrap64 (x8 + 1))) == 34) x173000 x173001 x173002 x173003 x173004) else (rookeryref15_text.j1 k x0 (wrap64 (x8 + 1)) (bt x0 (wrap64 (x8 + 1))) ((bt x0 (wrap64 (x8 + 1))) == 92) x173000 x173001 x173002 x173003 x173004)))) else (none)) else (none))) else (if x173003.length < 140737488355328 then (rookeryref15_text.l0 k x0 (wrap64 (x8 + 1)) x173000 x173001 x173002 (x173003 ++ [bt x0 x8]) x173004) else (none))) else (some (0, (⟨#[]⟩ : ByteArray), 0, ([] : List Int), 0, x8, 154))))) else (none)) else (some (0, (⟨#[]⟩ : ByteArray), 0, ([] : List Int), 0, x8, 154))
def rookeryref15_text.j1 : Nat → ByteArray → Int → Int → Bool → Int → ByteArray → Int → List Int → Int → Option (Int × ByteArray × Int × List Int × Int × Int × Int)
  | 0, _, _, _, _, _, _, _, _, _ => none
  | k + 1, x0, x8, x50, x67, x173000, x173001, x173002, x173003, x173004 => if x67 = true then (if 0 ≤ x8 then (if x8 < (x0.size : Int) then (if x173003.length < 140737488355328 then (rookeryref15_text.l0 k x0 (wrap64 (x8 + 1)) x173000 x173001 x173002 (x173003 ++ [bt x0 x8]) x173004) else (none)) else (none)) else (none)) else (if x50 = 120 then (if (wrap64 (x8 + 2)) ≥ (x0.size : Int) then (rookeryref15_text.j2 k x0 x8 true x173000 x173001 x173002 x173003 x173004) else (if 0 ≤ (wrap64 (x8 + 1)) then (if (wrap64 (x8 + 1)) < (x0.size : Int) then ((rookeryref15_digit.f (bt x0 (wrap64 (x8 + 1)))).bind fun t186 => (if t186 < 0 then (rookeryref15_text.j2 k x0 x8 true x173000 x173001 x173002 x173003 x173004) else (if 0 ≤ (wrap64 (x8 + 2)) then (if (wrap64 (x8 + 2)) < (x0.size : Int) then ((rookeryref15_digit.f (bt x0 (wrap64 (x8 + 2)))).bind fun t187 => (rookeryref15_text.j2 k x0 x8 (decide (t187 < 0)) x173000 x173001 x173002 x173003 x173004)) else (none)) else (none)))) else (none)) else (none))) else (some (0, (⟨#[]⟩ : ByteArray), 0, ([] : List Int), 0, x8, 154)))
def rookeryref15_text.j2 : Nat → ByteArray → Int → Bool → Int → ByteArray → Int → List Int → Int → Option (Int × ByteArray × Int × List Int × Int × Int × Int)
  | 0, _, _, _, _, _, _, _, _ => none
  | k + 1, x0, x8, x100, x173000, x173001, x173002, x173003, x173004 => if x100 = true then (some (0, (⟨#[]⟩ : ByteArray), 0, ([] : List Int), 0, x8, 154)) else (if 0 ≤ (wrap64 (x8 + 1)) then (if (wrap64 (x8 + 1)) < (x0.size : Int) then ((rookeryref15_digit.f (bt x0 (wrap64 (x8 + 1)))).bind fun t188 => (if 0 ≤ (wrap64 (x8 + 2)) then (if (wrap64 (x8 + 2)) < (x0.size : Int) then ((rookeryref15_digit.f (bt x0 (wrap64 (x8 + 2)))).bind fun t189 => (if x173003.length < 140737488355328 then (rookeryref15_text.l0 k x0 (wrap64 ((wrap64 (x8 + 2)) + 1)) x173000 x173001 x173002 (x173003 ++ [(wrap64 ((wrap64 (16 * t188)) + t189)) % 256]) x173004) else (none))) else (none)) else (none))) else (none)) else (none))
end
def rookeryref15_text.f (k : Nat) (a0 : ByteArray) (a1 : Int) : Option (Int × ByteArray × Int × List Int × Int × Int × Int) := rookeryref15_text.l0 k a0 (wrap64 (a1 + 1)) 4 (⟨#[]⟩ : ByteArray) 0 (([] : List Int)) a1
theorem rookeryref15_text.mono_l : ∀ k, (∀ y0 y1 y2 y3 y4 y5 y6, LeO (rookeryref15_text.l0 k y0 y1 y2 y3 y4 y5 y6) (rookeryref15_text.l0 (k + 1) y0 y1 y2 y3 y4 y5 y6)) ∧ (∀ y0 y1 y2 y3 y4 y5 y6 y7 y8, LeO (rookeryref15_text.j1 k y0 y1 y2 y3 y4 y5 y6 y7 y8) (rookeryref15_text.j1 (k + 1) y0 y1 y2 y3 y4 y5 y6 y7 y8)) ∧ (∀ y0 y1 y2 y3 y4 y5 y6 y7, LeO (rookeryref15_text.j2 k y0 y1 y2 y3 y4 y5 y6 y7) (rookeryref15_text.j2 (k + 1) y0 y1 y2 y3 y4 y5 y6 y7))
  | 0 => ⟨fun _ _ _ _ _ _ _ r h => by simp [rookeryref15_text.l0] at h, fun _ _ _ _ _ _ _ _ _ r h => by simp [rookeryref15_text.j1] at h, fun _ _ _ _ _ _ _ _ r h => by simp [rookeryref15_text.j2] at h⟩
  | k + 1 => by
    obtain ⟨ih0, ih1, ih2⟩ := rookeryref15_text.mono_l k
    refine ⟨?_, ?_, ?_⟩
    · intro y0 y1 y2 y3 y4 y5 y6
      unfold rookeryref15_text.l0
      repeat' first
      | (with_reducible exact ih0 _ _ _ _ _ _ _)
      | (with_reducible exact ih1 _ _ _ _ _ _ _ _ _)
      | (with_reducible exact ih2 _ _ _ _ _ _ _ _)
      | (with_reducible exact LeO.refl _)
      | (with_reducible exact LeO.none _)
      | (with_reducible refine LeO.ite ?_ ?_)
      | (with_reducible refine LeO.bind ?_ (fun _ => ?_))
      | exact ih0 _ _ _ _ _ _ _
      | exact ih1 _ _ _ _ _ _ _ _ _
      | exact ih2 _ _ _ _ _ _ _ _
      | exact LeO.none _
      | refine LeO.ite ?_ ?_
      | refine LeO.bind ?_ (fun _ => ?_)
    · intro y0 y1 y2 y3 y4 y5 y6 y7 y8
      unfold rookeryref15_text.j1
      repeat' first
      | (with_reducible exact ih0 _ _ _ _ _ _ _)
      | (with_reducible exact ih1 _ _ _ _ _ _ _ _ _)
      | (with_reducible exact ih2 _ _ _ _ _ _ _ _)
      | (with_reducible exact LeO.refl _)
      | (with_reducible exact LeO.none _)
      | (with_reducible refine LeO.ite ?_ ?_)
      | (with_reducible refine LeO.bind ?_ (fun _ => ?_))
      | exact ih0 _ _ _ _ _ _ _
      | exact ih1 _ _ _ _ _ _ _ _ _
      | exact ih2 _ _ _ _ _ _ _ _
      | exact LeO.none _
      | refine LeO.ite ?_ ?_
      | refine LeO.bind ?_ (fun _ => ?_)
    · intro y0 y1 y2 y3 y4 y5 y6 y7
      unfold rookeryref15_text.j2
      repeat' first
      | (with_reducible exact ih0 _ _ _ _ _ _ _)
      | (with_reducible exact ih1 _ _ _ _ _ _ _ _ _)
      | (with_reducible exact ih2 _ _ _ _ _ _ _ _)
      | (with_reducible exact LeO.refl _)
      | (with_reducible exact LeO.none _)
      | (with_reducible refine LeO.ite ?_ ?_)
      | (with_reducible refine LeO.bind ?_ (fun _ => ?_))
      | exact ih0 _ _ _ _ _ _ _
      | exact ih1 _ _ _ _ _ _ _ _ _
      | exact ih2 _ _ _ _ _ _ _ _
      | exact LeO.none _
      | refine LeO.ite ?_ ?_
      | refine LeO.bind ?_ (fun _ => ?_)
theorem rookeryref15_text.mono : ∀ a0 a1 k, LeO (rookeryref15_text.f k a0 a1) (rookeryref15_text.f (k + 1) a0 a1) := by
  intro a0 a1 k
  obtain ⟨ih0, ih1, ih2⟩ := rookeryref15_text.mono_l k
  unfold rookeryref15_text.f
  repeat' first
      | (with_reducible exact ih0 _ _ _ _ _ _ _)
      | (with_reducible exact ih1 _ _ _ _ _ _ _ _ _)
      | (with_reducible exact ih2 _ _ _ _ _ _ _ _)
      | (with_reducible exact LeO.refl _)
      | (with_reducible exact LeO.none _)
      | (with_reducible refine LeO.ite ?_ ?_)
      | (with_reducible refine LeO.bind ?_ (fun _ => ?_))
      | exact ih0 _ _ _ _ _ _ _
      | exact ih1 _ _ _ _ _ _ _ _ _
      | exact ih2 _ _ _ _ _ _ _ _
      | exact LeO.none _
      | refine LeO.ite ?_ ?_
      | refine LeO.bind ?_ (fun _ => ?_)
def rookeryref15_text.T22 : Bool × List (List Nat × List Nat) := (true, [([], []), ([0], [0]), ([], []), ([], []), ([2, 3], [2, 3]), ([4], [4]), ([1, 5], [1, 5]), ([0, 1, 2, 3, 4, 5, 6], []), ([7, 6, 6, 0, 1, 2, 3, 4, 5, 6], [6, 7])])
def rookeryref15_text.B22 : List Nat := [0, 1, 0, 0, 12, 28, 63, 127, 255]
theorem rookeryref15_text.tab22 : rtab .any (opsOf Tryd.f58 22) = rookeryref15_text.T22 := by kernel_rfl
theorem rookeryref15_text.bits22 : waitsOk rookeryref15_text.T22.2 rookeryref15_text.B22 = true := by kernel_rfl
def rookeryref15_text.T26 : Bool × List (List Nat × List Nat) := (true, [([], []), ([0], [0]), ([], []), ([], []), ([3], [3]), ([2, 4], [2, 4]), ([5], [5]), ([6], [6]), ([], []), ([], []), ([9], [9]), ([8, 10], [8, 10]), ([11, 6], [11]), ([7, 12], [7, 12]), ([13], [13]), ([14], [14]), ([1, 15, 12], [1, 15]), ([0, 1, 2, 3, 4, 5, 6, 7, 8, 9, 10, 11, 12, 13, 14, 15, 16], []), ([17, 16, 16, 0, 1, 2, 3, 4, 5, 6, 7, 8, 9, 10, 11, 12, 13, 14, 15, 16], [16, 17])])
def rookeryref15_text.B26 : List Nat := [0, 1, 0, 0, 8, 28, 60, 124, 0, 0, 512, 1792, 3964, 8188, 16380, 32764, 65535, 131071, 262143]
theorem rookeryref15_text.tab26 : rtab .any (opsOf Tryd.f58 26) = rookeryref15_text.T26 := by kernel_rfl
theorem rookeryref15_text.bits26 : waitsOk rookeryref15_text.T26.2 rookeryref15_text.B26 = true := by kernel_rfl
set_option maxHeartbeats 8000000 in
set_option maxRecDepth 100000 in
theorem rookeryref15_text.calls (k : Nat) (a0 : ByteArray) (a1 : Int) (r1 : Int) (r2 : ByteArray) (r3 : Int) (r4 : List Int) (r5 : Int) (r6 : Int) (r7 : Int) (w : World) (h : rookeryref15_text.f k a0 a1 = some (r1, r2, r3, r4, r5, r6, r7)) :
    Calls Tryd.prog 58 #[.string a0, .int .i64 a1] w fun e w' => ∃ v3_ : Value, e = .returned (.tuple #[.agg #[.int .i64 r1, .string r2, .int .i64 r3, v3_, .int .i64 r5], .int .i64 r6, .int .i64 r7]) ∧ Kd.R (Kd.int .u8) 5 w' w.heap.size (fun _ => True) v3_ r4 ∧ Below w.heap.size w w' := by
  have hu33 := Tryd.underlying33
  have HB := Aside0.mk (Below.refl w.heap.size w)
  have H : (rookeryref15_text.l0 k a0 (wrap64 (a1 + 1)) 4 (⟨#[]⟩ : ByteArray) 0 (([] : List Int)) a1) = some (r1, r2, r3, r4, r5, r6, r7) := h
  clear h
  obtain ⟨y169, hy169⟩ : ∃ y_ : List Int, y_ = (([] : List Int)) := ⟨_, rfl⟩
  replace H : (rookeryref15_text.l0 k a0 (wrap64 (a1 + 1)) 4 (⟨#[]⟩ : ByteArray) 0 y169 a1) = some (r1, r2, r3, r4, r5, r6, r7) := by first | (rw [hy169]; with_reducible exact H) | (have H2_ := (Option.bind_some _ _).symm.trans H; rw [hy169]; with_reducible exact H2_) | (have H2_ := (Option.bind_some _ _).symm.trans H; with_reducible exact H2_) | with_reducible exact H | (rw [hy169]; exact H) | exact H
  have Ny169 := Aside0.mk hy169
  clear hy169
  have H' := Aside0.mk H
  clear H
  go_enter Tryd.func58, Tryd.ntmps58
  go_wp2_with (first | ((with_reducible refine gate_dst (N := 4) rfl ?_); refine box_event ?hg (N := 4) ?hd (cs := #[.int .i64 0, .string (⟨#[]⟩ : ByteArray), .int .i64 0, .slice none 0 0, .int .i64 0]) (t := 33) ?hr ?_; (case hd => rfl); (case hg => rfl); (case hr => first | (go_simp; done) | (go_simp; rfl)); intro gb168 hg w3 hbox hb; have n0_ := Aside0.mk (below_step (by repeat (first | (with_reducible first | exact HB.out | apply below_alloc | apply pw_below_drewN | apply below_drew1) | exact HB.out)) hb); have n1_ := Aside0.mk (hbox); have n2_ := Aside0.mk ((by rw [hg]; exact (below_size (by repeat (first | (with_reducible first | exact HB.out | apply below_alloc | apply pw_below_drewN | apply below_drew1) | exact HB.out))) : w.heap.size ≤ gb168)); have n3_ := Aside0.mk ((by rw [hg]; exact (below_size (by repeat (first | (with_reducible first | exact HB.out | apply below_alloc | apply pw_below_drewN | apply below_drew1) | exact HB.out))) : w.heap.size ≤ gb168)); clear HB; have HB := n0_; have BK168 := n1_; have GW168 := n2_; have GE168 := n3_; clear n0_ n1_ n2_ n3_; clear hb hbox hg) | ((with_reducible refine gate_dst (N := 11) rfl ?_); refine Kd.R_lit (Kd.int .u8) _ 5 ?hg (N := 11) ?hd (xs := ([] : List Int)) (inner := []) (ok := fun _ => True) (okp := fun _ => True) ?hr ?hp (fun _ hk => hk) trivial (Below.refl _ _) (Nat.le_refl _) (by simp) ?_; (case hd => rfl); (case hg => rfl); (case hr => first | (go_simp; done) | (go_simp; rfl)); (case hp => exact (Reps.none _ _)); intro v170 w4 ho5 hb hg_ hnew_; clear hg_ hnew_; (first | rw [← Ny169.out] at ho5 | (simp only [Int.reduceToNat] at ho5; rw [← Ny169.out] at ho5)); have n0_ := Aside0.mk (Kd.R_lower ho5 (below_size (by repeat (first | (with_reducible first | exact HB.out | apply below_alloc | apply pw_below_drewN | apply below_drew1 | refine below_set ?_ GE168.out) | exact HB.out)))); have n1_ := Aside0.mk (blk_below (g := gb168) (o := .cells #[.int .i64 0, .string (⟨#[]⟩ : ByteArray), .int .i64 0, .slice none 0 0, .int .i64 0] 33 (0, 0)) (by (with_reducible repeat (first | refine blk_drewN ?_ _ | refine blk_drew ?_ | refine blk_alloc ?_ _)); exact BK168.out) hb); have n2_ := Aside0.mk (below_step (by repeat (first | (with_reducible first | exact HB.out | apply below_alloc | apply pw_below_drewN | apply below_drew1 | refine below_set ?_ GE168.out) | exact HB.out)) hb); clear BK168; clear HB; have HO171 := n0_; have BK168 := n1_; have HB := n2_; clear n0_ n1_ n2_; clear hb ho5; obtain ⟨Ao6, co6, eo6⟩ := Kd.R_slice HO171.out; subst eo6) | ((with_reducible refine gate_dst (N := 7) rfl ?_); refine box_event ?hg (N := 7) ?hd (cs := #[.int .i64 0, .string (⟨#[]⟩ : ByteArray), .int .i64 0, .slice none 0 0, .int .i64 0]) (t := 33) ?hr ?_; (case hd => rfl); (case hg => rfl); (case hr => first | (go_simp; done) | (go_simp; rfl)); intro gb172 hg w7 hbox hb; have n0_ := Aside0.mk (Kd.R_below (by (with_reducible repeat (first | apply Kd.R_alloc | apply Kd.R_drewN | apply Kd.R_drew)); exact HO171.out) hb); have n1_ := Aside0.mk (blk_below (g := gb168) (o := .cells #[.int .i64 0, .string (⟨#[]⟩ : ByteArray), .int .i64 0, .slice none 0 0, .int .i64 0] 33 (0, 0)) (by (with_reducible repeat (first | refine blk_drewN ?_ _ | refine blk_drew ?_ | refine blk_alloc ?_ _)); exact BK168.out) hb); have n2_ := Aside0.mk (below_step (by repeat (first | (with_reducible first | exact HB.out | apply below_alloc | apply pw_below_drewN | apply below_drew1 | refine below_set ?_ GE168.out) | exact HB.out)) hb); have n3_ := Aside0.mk (hbox); have n4_ := Aside0.mk ((by rw [hg]; exact (below_size (by repeat (first | (with_reducible first | exact HB.out | apply below_alloc | apply pw_below_drewN | apply below_drew1 | refine below_set ?_ GE168.out) | exact HB.out))) : w.heap.size ≤ gb172)); have n5_ := Aside0.mk ((by rw [hg]; exact (below_size (by repeat (first | (with_reducible first | exact HB.out | apply below_alloc | apply pw_below_drewN | apply below_drew1 | refine below_set ?_ GE168.out) | exact HB.out))) : w.heap.size ≤ gb172)); have n6_ := Aside0.mk ((by rw [hg]; exact Nat.ne_of_lt (blk_lt (g := gb168) (o := .cells #[.int .i64 0, .string (⟨#[]⟩ : ByteArray), .int .i64 0, .slice none 0 0, .int .i64 0] 33 (0, 0)) (by (with_reducible repeat (first | refine blk_drewN ?_ _ | refine blk_drew ?_ | refine blk_alloc ?_ _)); exact BK168.out)) : gb168 ≠ gb172)); have n7_ := Aside0.mk ((by rw [hg]; exact Nat.ne_of_gt (blk_lt (g := gb168) (o := .cells #[.int .i64 0, .string (⟨#[]⟩ : ByteArray), .int .i64 0, .slice none 0 0, .int .i64 0] 33 (0, 0)) (by (with_reducible repeat (first | refine blk_drewN ?_ _ | refine blk_drew ?_ | refine blk_alloc ?_ _)); exact BK168.out)) : gb172 ≠ gb168)); clear HO171; clear BK168; clear HB; have HO171 := n0_; have BK168 := n1_; have HB := n2_; have BK172 := n3_; have GW172 := n4_; have GE172 := n5_; have NB168_172 := n6_; have NB172_168 := n7_; clear n0_ n1_ n2_ n3_ n4_ n5_ n6_ n7_; clear hb hbox hg; have hnb8 := NB172_168.out; have hnc8 := NB168_172.out; have hcz9_0 : w7.cell? ⟨gb172, 0, none⟩ = some (.int .i64 0) := (blk_cell BK172.out 0).trans rfl; have hcz9_1 : w7.cell? ⟨gb172, 1, none⟩ = some (.string (⟨#[]⟩ : ByteArray)) := (blk_cell BK172.out 1).trans rfl; have hcz9_2 : w7.cell? ⟨gb172, 2, none⟩ = some (.int .i64 0) := (blk_cell BK172.out 2).trans rfl; have hcz9_3 : w7.cell? ⟨gb172, 3, none⟩ = some (.slice none 0 0) := (blk_cell BK172.out 3).trans rfl; have hcz9_4 : w7.cell? ⟨gb172, 4, none⟩ = some (.int .i64 0) := (blk_cell BK172.out 4).trans rfl; have hfz9_0 := blk_frozen BK172.out 0; have hfz9_1 := blk_frozen BK172.out 1; have hfz9_2 := blk_frozen BK172.out 2; have hfz9_3 := blk_frozen BK172.out 3; have hfz9_4 := blk_frozen BK172.out 4))
  go_loopg [8] k (fun kq v8 w' => ∃ (x8_1 : Int) (x169000_1 : Int) (x169001_1 : ByteArray) (x169002_1 : Int) (x169004_1 : Int) (x173003_1 : List Int) (u173003 : Value), v8 = .int .i64 x8_1 ∧ Aside0 (rookeryref15_text.l0 kq a0 x8_1 4 (⟨#[]⟩ : ByteArray) 0 x173003_1 a1 = some (r1, r2, r3, r4, r5, r6, r7)) ∧ Aside0 (kq ≤ k) ∧ Aside0 (Kd.R (Kd.int .u8) 5 w' w.heap.size (fun _ => True) u173003 x173003_1) ∧ Aside0 (w'.heap[gb168]? = some (.cells #[.int .i64 x169000_1, .string x169001_1, .int .i64 x169002_1, (.slice none 0 0), .int .i64 x169004_1] 33 (0, 0))) ∧ Aside0 (w'.heap[gb172]? = some (.cells #[.int .i64 4, .string (⟨#[]⟩ : ByteArray), .int .i64 0, u173003, .int .i64 a1] 33 (0, 0))) ∧ Aside0 (Below w.heap.size w w'))
  case atStart => exact ⟨(wrap64 (a1 + 1)), (0), ((⟨#[]⟩ : ByteArray)), (0), (0), (y169), (.slice Ao6 y169.length co6), (by first | rfl | (simp; done) | (simp [*]; done)), H', ⟨Nat.le_refl _⟩, ⟨by (with_reducible repeat (first | apply Kd.R_alloc | apply Kd.R_drewN | apply Kd.R_drew)); exact Kd.R_mono (Kd.R_far (p := ⟨gb172, 4, none⟩) (Kd.R_far (p := ⟨gb172, 3, none⟩) (Kd.R_far (p := ⟨gb172, 2, none⟩) (Kd.R_far (p := ⟨gb172, 1, none⟩) (Kd.R_far (p := ⟨gb172, 0, none⟩) (Kd.R_types HO171.out BK172.out (by decide)) (fun _ hk => hk.2) (.int .i64 4)) (fun _ hk => hk.2) (.string (⟨#[]⟩ : ByteArray))) (fun _ hk => hk.2) (.int .i64 0)) (fun _ hk => hk.2) (.slice Ao6 y169.length co6)) (fun _ hk => hk.2) (.int .i64 a1)) (fun _ hk => trivial)⟩, ⟨by (with_reducible repeat (first | refine blk_drewN ?_ _ | refine blk_drew ?_ | refine blk_alloc ?_ _)); refine blk_far ?_ NB168_172.out _; (with_reducible repeat (first | refine blk_drewN ?_ _ | refine blk_drew ?_ | refine blk_alloc ?_ _)); refine blk_far ?_ NB168_172.out _; (with_reducible repeat (first | refine blk_drewN ?_ _ | refine blk_drew ?_ | refine blk_alloc ?_ _)); refine blk_far ?_ NB168_172.out _; (with_reducible repeat (first | refine blk_drewN ?_ _ | refine blk_drew ?_ | refine blk_alloc ?_ _)); refine blk_far ?_ NB168_172.out _; (with_reducible repeat (first | refine blk_drewN ?_ _ | refine blk_drew ?_ | refine blk_alloc ?_ _)); refine blk_far ?_ NB168_172.out _; (with_reducible repeat (first | refine blk_drewN ?_ _ | refine blk_drew ?_ | refine blk_alloc ?_ _)); exact BK168.out⟩, ⟨by (with_reducible repeat (first | refine blk_drewN ?_ _ | refine blk_drew ?_ | refine blk_alloc ?_ _)); refine blk_put (cs := #[.int .i64 4, .string (⟨#[]⟩ : ByteArray), .int .i64 0, .slice Ao6 y169.length co6, .int .i64 0]) ?_ 4 _ rfl; (with_reducible repeat (first | refine blk_drewN ?_ _ | refine blk_drew ?_ | refine blk_alloc ?_ _)); refine blk_put (cs := #[.int .i64 4, .string (⟨#[]⟩ : ByteArray), .int .i64 0, .slice none 0 0, .int .i64 0]) ?_ 3 _ rfl; (with_reducible repeat (first | refine blk_drewN ?_ _ | refine blk_drew ?_ | refine blk_alloc ?_ _)); refine blk_put (cs := #[.int .i64 4, .string (⟨#[]⟩ : ByteArray), .int .i64 0, .slice none 0 0, .int .i64 0]) ?_ 2 _ rfl; (with_reducible repeat (first | refine blk_drewN ?_ _ | refine blk_drew ?_ | refine blk_alloc ?_ _)); refine blk_put (cs := #[.int .i64 4, .string (⟨#[]⟩ : ByteArray), .int .i64 0, .slice none 0 0, .int .i64 0]) ?_ 1 _ rfl; (with_reducible repeat (first | refine blk_drewN ?_ _ | refine blk_drew ?_ | refine blk_alloc ?_ _)); refine blk_put (cs := #[.int .i64 0, .string (⟨#[]⟩ : ByteArray), .int .i64 0, .slice none 0 0, .int .i64 0]) ?_ 0 _ rfl; (with_reducible repeat (first | refine blk_drewN ?_ _ | refine blk_drew ?_ | refine blk_alloc ?_ _)); exact BK172.out⟩, ⟨by repeat (first | (with_reducible first | exact HB.out | apply below_alloc | apply pw_below_drewN | apply below_drew1 | refine below_set ?_ GE168.out | refine below_set ?_ GE172.out) | exact HB.out)⟩⟩
  case round =>
    clear H'
    try clear p2
    try clear c5
    try clear p6
    try clear c8
    try clear hcz9_0
    try clear hcz9_1
    try clear hcz9_2
    try clear hcz9_3
    try clear hcz9_4
    try clear hfz9_0
    try clear hfz9_1
    try clear hfz9_2
    try clear hfz9_3
    try clear hfz9_4
    obtain ⟨x8_1, x169000_1, x169001_1, x169002_1, x169004_1, x173003_1, u173003, rfl, HA, HK1, HO_173003, BK168, BK172, HB⟩ := hrel
    cases gk with
    | zero => exact absurd HA.out (by simp [rookeryref15_text.l0])
    | succ k1 =>
      have H := HA.out
      clear HA
      simp only [rookeryref15_text.l0] at H
      by_cases c10 : x8_1 < (a0.size : Int)
      · rw [if_pos c10] at H
        have c10b0 : decide (x8_1 < (a0.size : Int)) = true := decide_eq_true c10
        clear c10
        by_cases c11 : 0 ≤ x8_1
        · rw [if_pos c11] at H
          have c11b0 : decide (0 ≤ x8_1) = true := decide_eq_true c11
          clear c11
          by_cases c13 : (bt a0 x8_1) = 34
          · rw [if_pos c13] at H
            have c13b0 : ((bt a0 x8_1) == 34) = true := beq_iff_eq.mpr c13
            have c13b1 : ((bt a0 x8_1) != 34) = false := bne_eq_false_iff_eq.mpr c13
            clear c13
            simp only [Option.some.injEq, Prod.mk.injEq] at H
            obtain ⟨rfl, rfl, rfl, rfl, rfl, rfl, rfl⟩ := H
            have p12 : 0 ≤ (x8_1 : Int) := of_decide_eq_true (by first | (with_reducible assumption) | assumption)
            have q12 : x8_1 < (a0.size : Int) := of_decide_eq_true (by first | (with_reducible assumption) | assumption)
            have hx12 := bt_at a0 x8_1
            replace p12 := eq_true p12
            replace q12 := eq_true q12
            have hnb14 := NB172_168.out
            have hnc14 := NB168_172.out
            have hcz15_0 : wr.cell? ⟨gb172, 0, none⟩ = some (.int .i64 4) := (blk_cell BK172.out 0).trans rfl
            have hcz15_1 : wr.cell? ⟨gb172, 1, none⟩ = some (.string (⟨#[]⟩ : ByteArray)) := (blk_cell BK172.out 1).trans rfl
            have hcz15_2 : wr.cell? ⟨gb172, 2, none⟩ = some (.int .i64 0) := (blk_cell BK172.out 2).trans rfl
            have hcz15_3 : wr.cell? ⟨gb172, 3, none⟩ = some (u173003) := (blk_cell BK172.out 3).trans rfl
            have hcz15_4 : wr.cell? ⟨gb172, 4, none⟩ = some (.int .i64 a1) := (blk_cell BK172.out 4).trans rfl
            have hfz15_0 := blk_frozen BK172.out 0
            have hfz15_1 := blk_frozen BK172.out 1
            have hfz15_2 := blk_frozen BK172.out 2
            have hfz15_3 := blk_frozen BK172.out 3
            have hfz15_4 := blk_frozen BK172.out 4
            have hcz16_0 : wr.cell? ⟨gb168, 0, none⟩ = some (.int .i64 x169000_1) := (blk_cell BK168.out 0).trans rfl
            have hcz16_1 : wr.cell? ⟨gb168, 1, none⟩ = some (.string x169001_1) := (blk_cell BK168.out 1).trans rfl
            have hcz16_2 : wr.cell? ⟨gb168, 2, none⟩ = some (.int .i64 x169002_1) := (blk_cell BK168.out 2).trans rfl
            have hcz16_3 : wr.cell? ⟨gb168, 3, none⟩ = some (.slice none 0 0) := (blk_cell BK168.out 3).trans rfl
            have hcz16_4 : wr.cell? ⟨gb168, 4, none⟩ = some (.int .i64 x169004_1) := (blk_cell BK168.out 4).trans rfl
            have hfz16_0 := blk_frozen BK168.out 0
            have hfz16_1 := blk_frozen BK168.out 1
            have hfz16_2 := blk_frozen BK168.out 2
            have hfz16_3 := blk_frozen BK168.out 3
            have hfz16_4 := blk_frozen BK168.out 4
            obtain ⟨Ao17, co17, eo17⟩ := Kd.R_slice HO_173003.out
            subst eo17
            go_wp2
            refine bodyPost_ret (results_ctt rfl _ _ gb168 33 #[.int .i64 4, .string (⟨#[]⟩ : ByteArray), .int .i64 0, .slice Ao17 x173003_1.length co17, .int .i64 a1] (0, 0) _ rfl (by (with_reducible repeat (first | refine blk_drewN ?_ _ | refine blk_drew ?_ | refine blk_alloc ?_ _)); refine blk_put (cs := #[.int .i64 4, .string (⟨#[]⟩ : ByteArray), .int .i64 0, .slice Ao17 x173003_1.length co17, .int .i64 x169004_1]) ?_ 4 _ rfl; (with_reducible repeat (first | refine blk_drewN ?_ _ | refine blk_drew ?_ | refine blk_alloc ?_ _)); refine blk_put (cs := #[.int .i64 4, .string (⟨#[]⟩ : ByteArray), .int .i64 0, .slice none 0 0, .int .i64 x169004_1]) ?_ 3 _ rfl; (with_reducible repeat (first | refine blk_drewN ?_ _ | refine blk_drew ?_ | refine blk_alloc ?_ _)); refine blk_put (cs := #[.int .i64 4, .string (⟨#[]⟩ : ByteArray), .int .i64 x169002_1, .slice none 0 0, .int .i64 x169004_1]) ?_ 2 _ rfl; (with_reducible repeat (first | refine blk_drewN ?_ _ | refine blk_drew ?_ | refine blk_alloc ?_ _)); refine blk_put (cs := #[.int .i64 4, .string x169001_1, .int .i64 x169002_1, .slice none 0 0, .int .i64 x169004_1]) ?_ 1 _ rfl; (with_reducible repeat (first | refine blk_drewN ?_ _ | refine blk_drew ?_ | refine blk_alloc ?_ _)); refine blk_put (cs := #[.int .i64 x169000_1, .string x169001_1, .int .i64 x169002_1, .slice none 0 0, .int .i64 x169004_1]) ?_ 0 _ rfl; (with_reducible repeat (first | refine blk_drewN ?_ _ | refine blk_drew ?_ | refine blk_alloc ?_ _)); exact BK168.out) Tryd.underlying33 rfl (by kernel_rfl)) rfl ?_
            exact ⟨_, by first | rfl | (simp [errW_none, errW_some] <;> rfl) | (simp [*, errW_none, errW_some] <;> rfl), by (with_reducible repeat (first | apply Kd.R_alloc | apply Kd.R_drewN | apply Kd.R_drew)); exact Kd.R_mono (Kd.R_far (p := ⟨gb168, 4, none⟩) (Kd.R_far (p := ⟨gb168, 3, none⟩) (Kd.R_far (p := ⟨gb168, 2, none⟩) (Kd.R_far (p := ⟨gb168, 1, none⟩) (Kd.R_far (p := ⟨gb168, 0, none⟩) (Kd.R_types HO_173003.out BK168.out (by decide)) (fun _ hk => hk.2) (.int .i64 4)) (fun _ hk => hk.2) (.string (⟨#[]⟩ : ByteArray))) (fun _ hk => hk.2) (.int .i64 0)) (fun _ hk => hk.2) (.slice Ao17 x173003_1.length co17)) (fun _ hk => hk.2) (.int .i64 a1)) (fun _ hk => trivial), by repeat (first | (with_reducible first | exact HB.out | apply below_alloc | apply pw_below_drewN | apply below_drew1 | refine below_set ?_ GE168.out | refine below_set ?_ GE172.out) | exact HB.out)⟩
          · rw [if_neg c13] at H
            have c13b0 : ((bt a0 x8_1) == 34) = false := beq_eq_false_iff_ne.mpr c13
            have c13b1 : ((bt a0 x8_1) != 34) = true := bne_iff_ne.mpr c13
            replace H := Option.bind_eq_some_iff.mp H
            obtain ⟨t173, A180, H⟩ := H
            replace H : (if t173 = true then (if (bt a0 x8_1) = 92 then (if (wrap64 (x8_1 + 1)) = (a0.size : Int) then (some (0, (⟨#[]⟩ : ByteArray), 0, ([] : List Int), 0, wrap64 (x8_1 + 1), 154)) else (if 0 ≤ (wrap64 (x8_1 + 1)) then (if (wrap64 (x8_1 + 1)) < (a0.size : Int) then (if (bt a0 (wrap64 (x8_1 + 1))) = 110 then (if x173003_1.length < 140737488355328 then (rookeryref15_text.l0 k1 a0 (wrap64 ((wrap64 (x8_1 + 1)) + 1)) 4 (⟨#[]⟩ : ByteArray) 0 (x173003_1 ++ [10]) a1) else (none)) else (if (bt a0 (wrap64 (x8_1 + 1))) = 116 then (if x173003_1.length < 140737488355328 then (rookeryref15_text.l0 k1 a0 (wrap64 ((wrap64 (x8_1 + 1)) + 1)) 4 (⟨#[]⟩ : ByteArray) 0 (x173003_1 ++ [9]) a1) else (none)) else (if (bt a0 (wrap64 (x8_1 + 1))) = 34 then (rookeryref15_text.j1 k1 a0 (wrap64 (x8_1 + 1)) (bt a0 (wrap64 (x8_1 + 1))) ((bt a0 (wrap64 (x8_1 + 1))) == 34) 4 (⟨#[]⟩ : ByteArray) 0 x173003_1 a1) else (rookeryref15_text.j1 k1 a0 (wrap64 (x8_1 + 1)) (bt a0 (wrap64 (x8_1 + 1))) ((bt a0 (wrap64 (x8_1 + 1))) == 92) 4 (⟨#[]⟩ : ByteArray) 0 x173003_1 a1)))) else (none)) else (none))) else (if x173003_1.length < 140737488355328 then (rookeryref15_text.l0 k1 a0 (wrap64 (x8_1 + 1)) 4 (⟨#[]⟩ : ByteArray) 0 (x173003_1 ++ [bt a0 x8_1]) a1) else (none))) else (some (0, (⟨#[]⟩ : ByteArray), 0, ([] : List Int), 0, x8_1, 154))) = some (r1, r2, r3, r4, r5, r6, r7) := H
            have A18 := Aside0.mk A180
            clear A180
            by_cases c19 : t173 = true
            · subst c19
              have H1 : (if (bt a0 x8_1) = 92 then (if (wrap64 (x8_1 + 1)) = (a0.size : Int) then (some (0, (⟨#[]⟩ : ByteArray), 0, ([] : List Int), 0, wrap64 (x8_1 + 1), 154)) else (if 0 ≤ (wrap64 (x8_1 + 1)) then (if (wrap64 (x8_1 + 1)) < (a0.size : Int) then (if (bt a0 (wrap64 (x8_1 + 1))) = 110 then (if x173003_1.length < 140737488355328 then (rookeryref15_text.l0 k1 a0 (wrap64 ((wrap64 (x8_1 + 1)) + 1)) 4 (⟨#[]⟩ : ByteArray) 0 (x173003_1 ++ [10]) a1) else (none)) else (if (bt a0 (wrap64 (x8_1 + 1))) = 116 then (if x173003_1.length < 140737488355328 then (rookeryref15_text.l0 k1 a0 (wrap64 ((wrap64 (x8_1 + 1)) + 1)) 4 (⟨#[]⟩ : ByteArray) 0 (x173003_1 ++ [9]) a1) else (none)) else (if (bt a0 (wrap64 (x8_1 + 1))) = 34 then (rookeryref15_text.j1 k1 a0 (wrap64 (x8_1 + 1)) (bt a0 (wrap64 (x8_1 + 1))) ((bt a0 (wrap64 (x8_1 + 1))) == 34) 4 (⟨#[]⟩ : ByteArray) 0 x173003_1 a1) else (rookeryref15_text.j1 k1 a0 (wrap64 (x8_1 + 1)) (bt a0 (wrap64 (x8_1 + 1))) ((bt a0 (wrap64 (x8_1 + 1))) == 92) 4 (⟨#[]⟩ : ByteArray) 0 x173003_1 a1)))) else (none)) else (none))) else (if x173003_1.length < 140737488355328 then (rookeryref15_text.l0 k1 a0 (wrap64 (x8_1 + 1)) 4 (⟨#[]⟩ : ByteArray) 0 (x173003_1 ++ [bt a0 x8_1]) a1) else (none))) = some (r1, r2, r3, r4, r5, r6, r7) := by rw [if_pos rfl] at H; exact H
              clear H
              have H := H1
              clear H1
              by_cases c20 : (bt a0 x8_1) = 92
              · rw [if_pos c20] at H
                have c20b0 : ((bt a0 x8_1) == 92) = true := beq_iff_eq.mpr c20
                have c20b1 : ((bt a0 x8_1) != 92) = false := bne_eq_false_iff_eq.mpr c20
                clear c20
                by_cases c21 : (wrap64 (x8_1 + 1)) = (a0.size : Int)
                · rw [if_pos c21] at H
                  have c21b0 : ((wrap64 (x8_1 + 1)) == (a0.size : Int)) = true := beq_iff_eq.mpr c21
                  have c21b1 : ((wrap64 (x8_1 + 1)) != (a0.size : Int)) = false := bne_eq_false_iff_eq.mpr c21
                  clear c21
                  simp only [Option.some.injEq, Prod.mk.injEq] at H
                  obtain ⟨rfl, rfl, rfl, rfl, rfl, rfl, rfl⟩ := H
                  have p12 : 0 ≤ (x8_1 : Int) := of_decide_eq_true (by first | (with_reducible assumption) | assumption)
                  have q12 : x8_1 < (a0.size : Int) := of_decide_eq_true (by first | (with_reducible assumption) | assumption)
                  have hx12 := bt_at a0 x8_1
                  replace p12 := eq_true p12
                  replace q12 := eq_true q12
                  go_wp2_with (first | ((with_reducible refine gate_callee (f := 40) rfl ?_); refine goesL_ (some 28) rfl rfl Tryd.func40 (by kernel_rfl) rfl #[.int .u8 (bt a0 x8_1), .int .u8 32, .int .u8 126] rfl (by (try simp only [List.map_toArray, List.map_cons, List.map_nil]); first | done | rfl | (simp only [List.length_drop, List.length_take]; rfl)) ?_; (with_reducible refine (rookeryref15_between.calls (bt a0 x8_1) 32 126 true _ A18.out).mono ?_); rintro e w' ⟨rfl, ⟨nd, rfl⟩⟩; refine ⟨_, rfl, ?_⟩; (try (rw [drewN_self wr]; generalize hq_ : World.drewN wr _ = wr; have n0_ : Aside0 (Kd.R (Kd.int .u8) 5 wr w.heap.size (fun _ => True) u173003 x173003_1) := ⟨by rw [← hq_]; exact (by (with_reducible repeat (first | apply Kd.R_alloc | apply Kd.R_drewN | apply Kd.R_drew)); exact HO_173003.out)⟩; have n1_ : Aside0 (wr.heap[gb168]? = some (.cells #[.int .i64 x169000_1, .string x169001_1, .int .i64 x169002_1, .slice none 0 0, .int .i64 x169004_1] 33 (0, 0))) := ⟨by rw [← hq_]; exact (by (with_reducible repeat (first | refine blk_drewN ?_ _ | refine blk_drew ?_ | refine blk_alloc ?_ _)); exact BK168.out)⟩; have n2_ : Aside0 (wr.heap[gb172]? = some (.cells #[.int .i64 4, .string (⟨#[]⟩ : ByteArray), .int .i64 0, u173003, .int .i64 a1] 33 (0, 0))) := ⟨by rw [← hq_]; exact (by (with_reducible repeat (first | refine blk_drewN ?_ _ | refine blk_drew ?_ | refine blk_alloc ?_ _)); exact BK172.out)⟩; have n3_ : Aside0 (Below w.heap.size w wr) := ⟨by rw [← hq_]; exact (by repeat (first | (with_reducible first | exact HB.out | apply below_alloc | apply pw_below_drewN | apply below_drew1 | refine below_set ?_ GE168.out | refine below_set ?_ GE172.out) | exact HB.out))⟩; clear HO_173003 BK168 BK172 HB hq_; have HO_173003 := n0_; have BK168 := n1_; have BK172 := n2_; have HB := n3_; clear n0_ n1_ n2_ n3_)); have hnb22 := NB168_172.out; have hnc22 := NB172_168.out; have hcz23_0 : wr.cell? ⟨gb168, 0, none⟩ = some (.int .i64 x169000_1) := (blk_cell BK168.out 0).trans rfl; have hcz23_1 : wr.cell? ⟨gb168, 1, none⟩ = some (.string x169001_1) := (blk_cell BK168.out 1).trans rfl; have hcz23_2 : wr.cell? ⟨gb168, 2, none⟩ = some (.int .i64 x169002_1) := (blk_cell BK168.out 2).trans rfl; have hcz23_3 : wr.cell? ⟨gb168, 3, none⟩ = some (.slice none 0 0) := (blk_cell BK168.out 3).trans rfl; have hcz23_4 : wr.cell? ⟨gb168, 4, none⟩ = some (.int .i64 x169004_1) := (blk_cell BK168.out 4).trans rfl; have hfz23_0 := blk_frozen BK168.out 0; have hfz23_1 := blk_frozen BK168.out 1; have hfz23_2 := blk_frozen BK168.out 2; have hfz23_3 := blk_frozen BK168.out 3; have hfz23_4 := blk_frozen BK168.out 4))
                  refine bodyPost_ret (results_ctt rfl _ _ gb168 33 #[.int .i64 0, .string (⟨#[]⟩ : ByteArray), .int .i64 0, .slice none 0 0, .int .i64 0] (0, 0) _ rfl (by (with_reducible repeat (first | refine blk_drewN ?_ _ | refine blk_drew ?_ | refine blk_alloc ?_ _)); refine blk_put (cs := #[.int .i64 0, .string (⟨#[]⟩ : ByteArray), .int .i64 0, .slice none 0 0, .int .i64 x169004_1]) ?_ 4 _ rfl; (with_reducible repeat (first | refine blk_drewN ?_ _ | refine blk_drew ?_ | refine blk_alloc ?_ _)); refine blk_put (cs := #[.int .i64 0, .string (⟨#[]⟩ : ByteArray), .int .i64 0, .slice none 0 0, .int .i64 x169004_1]) ?_ 3 _ rfl; (with_reducible repeat (first | refine blk_drewN ?_ _ | refine blk_drew ?_ | refine blk_alloc ?_ _)); refine blk_put (cs := #[.int .i64 0, .string (⟨#[]⟩ : ByteArray), .int .i64 x169002_1, .slice none 0 0, .int .i64 x169004_1]) ?_ 2 _ rfl; (with_reducible repeat (first | refine blk_drewN ?_ _ | refine blk_drew ?_ | refine blk_alloc ?_ _)); refine blk_put (cs := #[.int .i64 0, .string x169001_1, .int .i64 x169002_1, .slice none 0 0, .int .i64 x169004_1]) ?_ 1 _ rfl; (with_reducible repeat (first | refine blk_drewN ?_ _ | refine blk_drew ?_ | refine blk_alloc ?_ _)); refine blk_put (cs := #[.int .i64 x169000_1, .string x169001_1, .int .i64 x169002_1, .slice none 0 0, .int .i64 x169004_1]) ?_ 0 _ rfl; (with_reducible repeat (first | refine blk_drewN ?_ _ | refine blk_drew ?_ | refine blk_alloc ?_ _)); exact BK168.out) Tryd.underlying33 rfl (by kernel_rfl)) rfl ?_
                  exact ⟨_, by first | rfl | (simp [errW_none, errW_some] <;> rfl) | (simp [*, errW_none, errW_some] <;> rfl), by first | exact Kd.R_nil _ _ _ _ _ | exact Kd.N_nil _ _ _ _ _ | exact Kd.V_nil _ _ _ _ _ | exact Kd.Q_nil _ _ _ _ _ | exact Kd.S_nil _ _ _ _ _, by repeat (first | (with_reducible first | exact HB.out | apply below_alloc | apply pw_below_drewN | apply below_drew1 | refine below_set ?_ GE168.out | refine below_set ?_ GE172.out) | exact HB.out)⟩
                · rw [if_neg c21] at H
                  have c21b0 : ((wrap64 (x8_1 + 1)) == (a0.size : Int)) = false := beq_eq_false_iff_ne.mpr c21
                  have c21b1 : ((wrap64 (x8_1 + 1)) != (a0.size : Int)) = true := bne_iff_ne.mpr c21
                  obtain ⟨ji24, hji24⟩ : ∃ j_ : Int, (wrap64 (x8_1 + 1)) = j_ := ⟨_, rfl⟩
                  replace H : (if 0 ≤ (ji24) then (if (ji24) < (a0.size : Int) then (if (bt a0 (ji24)) = 110 then (if x173003_1.length < 140737488355328 then (rookeryref15_text.l0 k1 a0 (wrap64 ((ji24) + 1)) 4 (⟨#[]⟩ : ByteArray) 0 (x173003_1 ++ [10]) a1) else (none)) else (if (bt a0 (ji24)) = 116 then (if x173003_1.length < 140737488355328 then (rookeryref15_text.l0 k1 a0 (wrap64 ((ji24) + 1)) 4 (⟨#[]⟩ : ByteArray) 0 (x173003_1 ++ [9]) a1) else (none)) else (if (bt a0 (ji24)) = 34 then (rookeryref15_text.j1 k1 a0 ji24 (bt a0 (ji24)) ((bt a0 (ji24)) == 34) 4 (⟨#[]⟩ : ByteArray) 0 x173003_1 a1) else (rookeryref15_text.j1 k1 a0 ji24 (bt a0 (ji24)) ((bt a0 (ji24)) == 92) 4 (⟨#[]⟩ : ByteArray) 0 x173003_1 a1)))) else (none)) else (none)) = some (r1, r2, r3, r4, r5, r6, r7) := by first | (rw [hji24] at H; exact H) | (simp only [hji24] at H ⊢; exact H)
                  (try rw [hji24] at c21b0)
                  (try rw [hji24] at c21b1)
                  (try rw [hji24] at A18)
                  have hji24w : (IntKind.i64.wrap (x8_1 + 1)) = ji24 := (i64_w _).trans hji24
                  by_cases c25 : 0 ≤ (ji24)
                  · rw [if_pos c25] at H
                    have c25b0 : decide (0 ≤ (ji24)) = true := decide_eq_true c25
                    clear c25
                    by_cases c26 : (ji24) < (a0.size : Int)
                    · rw [if_pos c26] at H
                      have c26b0 : decide ((ji24) < (a0.size : Int)) = true := decide_eq_true c26
                      clear c26
                      by_cases c28 : (bt a0 (ji24)) = 110
                      · rw [if_pos c28] at H
                        have c28b0 : ((bt a0 (ji24)) == 110) = true := beq_iff_eq.mpr c28
                        have c28b1 : ((bt a0 (ji24)) != 110) = false := bne_eq_false_iff_eq.mpr c28
                        clear c28
                        by_cases c29 : x173003_1.length < 140737488355328
                        · rw [if_pos c29] at H
                          have LMc29 := Aside0.mk c29
                          clear c29
                          obtain ⟨y177, hy177⟩ : ∃ y_ : List Int, y_ = (x173003_1 ++ [10]) := ⟨_, rfl⟩
                          replace H : (rookeryref15_text.l0 k1 a0 (wrap64 ((ji24) + 1)) 4 (⟨#[]⟩ : ByteArray) 0 y177 a1) = some (r1, r2, r3, r4, r5, r6, r7) := by first | (rw [hy177]; with_reducible exact H) | (have H2_ := (Option.bind_some _ _).symm.trans H; rw [hy177]; with_reducible exact H2_) | (have H2_ := (Option.bind_some _ _).symm.trans H; with_reducible exact H2_) | with_reducible exact H | (rw [hy177]; exact H) | exact H
                          have Ny177 := Aside0.mk hy177
                          clear hy177
                          have H' := Aside0.mk H
                          clear H
                          have p12 : 0 ≤ (x8_1 : Int) := of_decide_eq_true (by first | (with_reducible assumption) | assumption)
                          have q12 : x8_1 < (a0.size : Int) := of_decide_eq_true (by first | (with_reducible assumption) | assumption)
                          have hx12 := bt_at a0 x8_1
                          replace p12 := eq_true p12
                          replace q12 := eq_true q12
                          go_wp2_with (first | ((with_reducible refine gate_callee (f := 40) rfl ?_); refine goesL_ (some 28) rfl rfl Tryd.func40 (by kernel_rfl) rfl #[.int .u8 (bt a0 x8_1), .int .u8 32, .int .u8 126] rfl (by (try simp only [List.map_toArray, List.map_cons, List.map_nil]); first | done | rfl | (simp only [List.length_drop, List.length_take]; rfl)) ?_; (with_reducible refine (rookeryref15_between.calls (bt a0 x8_1) 32 126 true _ A18.out).mono ?_); rintro e w' ⟨rfl, ⟨nd, rfl⟩⟩; refine ⟨_, rfl, ?_⟩; (try (rw [drewN_self wr]; generalize hq_ : World.drewN wr _ = wr; have n0_ : Aside0 (Kd.R (Kd.int .u8) 5 wr w.heap.size (fun _ => True) u173003 x173003_1) := ⟨by rw [← hq_]; exact (by (with_reducible repeat (first | apply Kd.R_alloc | apply Kd.R_drewN | apply Kd.R_drew)); exact HO_173003.out)⟩; have n1_ : Aside0 (wr.heap[gb168]? = some (.cells #[.int .i64 x169000_1, .string x169001_1, .int .i64 x169002_1, .slice none 0 0, .int .i64 x169004_1] 33 (0, 0))) := ⟨by rw [← hq_]; exact (by (with_reducible repeat (first | refine blk_drewN ?_ _ | refine blk_drew ?_ | refine blk_alloc ?_ _)); exact BK168.out)⟩; have n2_ : Aside0 (wr.heap[gb172]? = some (.cells #[.int .i64 4, .string (⟨#[]⟩ : ByteArray), .int .i64 0, u173003, .int .i64 a1] 33 (0, 0))) := ⟨by rw [← hq_]; exact (by (with_reducible repeat (first | refine blk_drewN ?_ _ | refine blk_drew ?_ | refine blk_alloc ?_ _)); exact BK172.out)⟩; have n3_ : Aside0 (Below w.heap.size w wr) := ⟨by rw [← hq_]; exact (by repeat (first | (with_reducible first | exact HB.out | apply below_alloc | apply pw_below_drewN | apply below_drew1 | refine below_set ?_ GE168.out | refine below_set ?_ GE172.out) | exact HB.out))⟩; clear HO_173003 BK168 BK172 HB hq_; have HO_173003 := n0_; have BK168 := n1_; have BK172 := n2_; have HB := n3_; clear n0_ n1_ n2_ n3_)); have p27 : 0 ≤ ((ji24) : Int) := of_decide_eq_true (by first | (with_reducible assumption) | assumption); have q27 : (ji24) < (a0.size : Int) := of_decide_eq_true (by first | (with_reducible assumption) | assumption); have hx27 := bt_at a0 (ji24); replace p27 := eq_true p27; replace q27 := eq_true q27; have hnb30 := NB172_168.out; have hnc30 := NB168_172.out; have hcz31_0 : wr.cell? ⟨gb172, 0, none⟩ = some (.int .i64 4) := (blk_cell BK172.out 0).trans rfl; have hcz31_1 : wr.cell? ⟨gb172, 1, none⟩ = some (.string (⟨#[]⟩ : ByteArray)) := (blk_cell BK172.out 1).trans rfl; have hcz31_2 : wr.cell? ⟨gb172, 2, none⟩ = some (.int .i64 0) := (blk_cell BK172.out 2).trans rfl; have hcz31_3 : wr.cell? ⟨gb172, 3, none⟩ = some (u173003) := (blk_cell BK172.out 3).trans rfl; have hcz31_4 : wr.cell? ⟨gb172, 4, none⟩ = some (.int .i64 a1) := (blk_cell BK172.out 4).trans rfl; have hfz31_0 := blk_frozen BK172.out 0; have hfz31_1 := blk_frozen BK172.out 1; have hfz31_2 := blk_frozen BK172.out 2; have hfz31_3 := blk_frozen BK172.out 3; have hfz31_4 := blk_frozen BK172.out 4) | ((with_reducible refine gate_builtin (b := .append) (xs := #[.tmp 56, .tmp 57]) rfl ?_); at_builtin; refine Kd.R_append (Kd.int .u8) (w0 := w) w.heap.size rfl (.tmp 56) (.tmp 57) 31 5 (.int .u8 0) 1 rfl Tryd.underlying31 info5 rfl (by decide) (by omega) u173003 x173003_1 10 [.int .u8 10] (fun _ => True) (fun _ => False) rfl rfl ?aP (fun _ hk => hk.elim) ?aF ?aO ?aB ?aS ?aL ?_; (case aP => exact rfl); (case aB => exact (by repeat (first | (with_reducible first | exact HB.out | apply below_alloc | apply pw_below_drewN | apply below_drew1 | refine below_set ?_ GE168.out | refine below_set ?_ GE172.out) | exact HB.out))); (case aF => exact (fun _ _ => trivial)); (case aO => exact (by (with_reducible repeat (first | apply Kd.R_alloc | apply Kd.R_drewN | apply Kd.R_drew)); exact HO_173003.out)); (case aS => exact (below_size (by repeat (first | (with_reducible first | exact HB.out | apply below_alloc | apply pw_below_drewN | apply below_drew1 | refine below_set ?_ GE168.out | refine below_set ?_ GE172.out) | exact HB.out)))); (case aL => have := LMc29.out; omega); intro v178 w32 ho hb hg hat; rw [← Ny177.out] at ho; have n0_ := Aside0.mk (blk_grown (g := gb168) (o := .cells #[.int .i64 x169000_1, .string x169001_1, .int .i64 x169002_1, .slice none 0 0, .int .i64 x169004_1] 33 (0, 0)) (by (with_reducible repeat (first | refine blk_drewN ?_ _ | refine blk_drew ?_ | refine blk_alloc ?_ _)); exact BK168.out) hg (Kd.R_ne HO_173003.out BK168.out (by decide))); have n1_ := Aside0.mk (blk_grown (g := gb172) (o := .cells #[.int .i64 4, .string (⟨#[]⟩ : ByteArray), .int .i64 0, u173003, .int .i64 a1] 33 (0, 0)) (by (with_reducible repeat (first | refine blk_drewN ?_ _ | refine blk_drew ?_ | refine blk_alloc ?_ _)); exact BK172.out) hg (Kd.R_ne HO_173003.out BK172.out (by decide))); have n2_ := Aside0.mk (hb); have n3_ := Aside0.mk (ho); clear BK168; clear BK172; clear HB; clear HO_173003; have BK168 := n0_; have BK172 := n1_; have HB := n2_; have HO179 := n3_; clear n0_ n1_ n2_ n3_; clear ho hb hg hat; obtain ⟨Ao33, co33, eo33⟩ := Kd.R_slice HO179.out; subst eo33; have hcz34_0 : w32.cell? ⟨gb172, 0, none⟩ = some (.int .i64 4) := (blk_cell BK172.out 0).trans rfl; have hcz34_1 : w32.cell? ⟨gb172, 1, none⟩ = some (.string (⟨#[]⟩ : ByteArray)) := (blk_cell BK172.out 1).trans rfl; have hcz34_2 : w32.cell? ⟨gb172, 2, none⟩ = some (.int .i64 0) := (blk_cell BK172.out 2).trans rfl; have hcz34_3 : w32.cell? ⟨gb172, 3, none⟩ = some (u173003) := (blk_cell BK172.out 3).trans rfl; have hcz34_4 : w32.cell? ⟨gb172, 4, none⟩ = some (.int .i64 a1) := (blk_cell BK172.out 4).trans rfl; have hfz34_0 := blk_frozen BK172.out 0; have hfz34_1 := blk_frozen BK172.out 1; have hfz34_2 := blk_frozen BK172.out 2; have hfz34_3 := blk_frozen BK172.out 3; have hfz34_4 := blk_frozen BK172.out 4))
                          go_roundg k1
                          case measure => have := HK1.out; omega
                          case rel => exact ⟨(wrap64 ((ji24) + 1)), (x169000_1), (x169001_1), (x169002_1), (x169004_1), (y177), (.slice Ao33 y177.length co33), (by first | rfl | (simp; done) | (simp only [← hji24] <;> (first | rfl | (simp; done))) | (simp [*]; done)), H', ⟨by have := HK1.out; omega⟩, ⟨by (with_reducible repeat (first | apply Kd.R_alloc | apply Kd.R_drewN | apply Kd.R_drew)); exact Kd.R_mono (Kd.R_far (p := ⟨gb172, 3, none⟩) (Kd.R_types HO179.out BK172.out (by decide)) (fun _ hk => hk.2) (.slice Ao33 y177.length co33)) (fun _ hk => trivial)⟩, ⟨by (with_reducible repeat (first | refine blk_drewN ?_ _ | refine blk_drew ?_ | refine blk_alloc ?_ _)); refine blk_far ?_ NB168_172.out _; (with_reducible repeat (first | refine blk_drewN ?_ _ | refine blk_drew ?_ | refine blk_alloc ?_ _)); exact BK168.out⟩, ⟨by (with_reducible repeat (first | refine blk_drewN ?_ _ | refine blk_drew ?_ | refine blk_alloc ?_ _)); refine blk_put (cs := #[.int .i64 4, .string (⟨#[]⟩ : ByteArray), .int .i64 0, u173003, .int .i64 a1]) ?_ 3 _ rfl; (with_reducible repeat (first | refine blk_drewN ?_ _ | refine blk_drew ?_ | refine blk_alloc ?_ _)); exact BK172.out⟩, ⟨by repeat (first | (with_reducible first | exact HB.out | apply below_alloc | apply pw_below_drewN | apply below_drew1 | refine below_set ?_ GE168.out | refine below_set ?_ GE172.out) | exact HB.out)⟩⟩
                        · rw [if_neg c29] at H
                          exact absurd H (by simp)
                      · rw [if_neg c28] at H
                        have c28b0 : ((bt a0 (ji24)) == 110) = false := beq_eq_false_iff_ne.mpr c28
                        have c28b1 : ((bt a0 (ji24)) != 110) = true := bne_iff_ne.mpr c28
                        by_cases c35 : (bt a0 (ji24)) = 116
                        · rw [if_pos c35] at H
                          have c35b0 : ((bt a0 (ji24)) == 116) = true := beq_iff_eq.mpr c35
                          have c35b1 : ((bt a0 (ji24)) != 116) = false := bne_eq_false_iff_eq.mpr c35
                          clear c35
                          by_cases c36 : x173003_1.length < 140737488355328
                          · rw [if_pos c36] at H
                            have LMc36 := Aside0.mk c36
                            clear c36
                            obtain ⟨y180, hy180⟩ : ∃ y_ : List Int, y_ = (x173003_1 ++ [9]) := ⟨_, rfl⟩
                            replace H : (rookeryref15_text.l0 k1 a0 (wrap64 ((ji24) + 1)) 4 (⟨#[]⟩ : ByteArray) 0 y180 a1) = some (r1, r2, r3, r4, r5, r6, r7) := by first | (rw [hy180]; with_reducible exact H) | (have H2_ := (Option.bind_some _ _).symm.trans H; rw [hy180]; with_reducible exact H2_) | (have H2_ := (Option.bind_some _ _).symm.trans H; with_reducible exact H2_) | with_reducible exact H | (rw [hy180]; exact H) | exact H
                            have Ny180 := Aside0.mk hy180
                            clear hy180
                            have H' := Aside0.mk H
                            clear H
                            have p12 : 0 ≤ (x8_1 : Int) := of_decide_eq_true (by first | (with_reducible assumption) | assumption)
                            have q12 : x8_1 < (a0.size : Int) := of_decide_eq_true (by first | (with_reducible assumption) | assumption)
                            have hx12 := bt_at a0 x8_1
                            replace p12 := eq_true p12
                            replace q12 := eq_true q12
                            go_wp2_with (first | ((with_reducible refine gate_callee (f := 40) rfl ?_); refine goesL_ (some 28) rfl rfl Tryd.func40 (by kernel_rfl) rfl #[.int .u8 (bt a0 x8_1), .int .u8 32, .int .u8 126] rfl (by (try simp only [List.map_toArray, List.map_cons, List.map_nil]); first | done | rfl | (simp only [List.length_drop, List.length_take]; rfl)) ?_; (with_reducible refine (rookeryref15_between.calls (bt a0 x8_1) 32 126 true _ A18.out).mono ?_); rintro e w' ⟨rfl, ⟨nd, rfl⟩⟩; refine ⟨_, rfl, ?_⟩; (try (rw [drewN_self wr]; generalize hq_ : World.drewN wr _ = wr; have n0_ : Aside0 (Kd.R (Kd.int .u8) 5 wr w.heap.size (fun _ => True) u173003 x173003_1) := ⟨by rw [← hq_]; exact (by (with_reducible repeat (first | apply Kd.R_alloc | apply Kd.R_drewN | apply Kd.R_drew)); exact HO_173003.out)⟩; have n1_ : Aside0 (wr.heap[gb168]? = some (.cells #[.int .i64 x169000_1, .string x169001_1, .int .i64 x169002_1, .slice none 0 0, .int .i64 x169004_1] 33 (0, 0))) := ⟨by rw [← hq_]; exact (by (with_reducible repeat (first | refine blk_drewN ?_ _ | refine blk_drew ?_ | refine blk_alloc ?_ _)); exact BK168.out)⟩; have n2_ : Aside0 (wr.heap[gb172]? = some (.cells #[.int .i64 4, .string (⟨#[]⟩ : ByteArray), .int .i64 0, u173003, .int .i64 a1] 33 (0, 0))) := ⟨by rw [← hq_]; exact (by (with_reducible repeat (first | refine blk_drewN ?_ _ | refine blk_drew ?_ | refine blk_alloc ?_ _)); exact BK172.out)⟩; have n3_ : Aside0 (Below w.heap.size w wr) := ⟨by rw [← hq_]; exact (by repeat (first | (with_reducible first | exact HB.out | apply below_alloc | apply pw_below_drewN | apply below_drew1 | refine below_set ?_ GE168.out | refine below_set ?_ GE172.out) | exact HB.out))⟩; clear HO_173003 BK168 BK172 HB hq_; have HO_173003 := n0_; have BK168 := n1_; have BK172 := n2_; have HB := n3_; clear n0_ n1_ n2_ n3_)); have p27 : 0 ≤ ((ji24) : Int) := of_decide_eq_true (by first | (with_reducible assumption) | assumption); have q27 : (ji24) < (a0.size : Int) := of_decide_eq_true (by first | (with_reducible assumption) | assumption); have hx27 := bt_at a0 (ji24); replace p27 := eq_true p27; replace q27 := eq_true q27; have hnb37 := NB172_168.out; have hnc37 := NB168_172.out; have hcz38_0 : wr.cell? ⟨gb172, 0, none⟩ = some (.int .i64 4) := (blk_cell BK172.out 0).trans rfl; have hcz38_1 : wr.cell? ⟨gb172, 1, none⟩ = some (.string (⟨#[]⟩ : ByteArray)) := (blk_cell BK172.out 1).trans rfl; have hcz38_2 : wr.cell? ⟨gb172, 2, none⟩ = some (.int .i64 0) := (blk_cell BK172.out 2).trans rfl; have hcz38_3 : wr.cell? ⟨gb172, 3, none⟩ = some (u173003) := (blk_cell BK172.out 3).trans rfl; have hcz38_4 : wr.cell? ⟨gb172, 4, none⟩ = some (.int .i64 a1) := (blk_cell BK172.out 4).trans rfl; have hfz38_0 := blk_frozen BK172.out 0; have hfz38_1 := blk_frozen BK172.out 1; have hfz38_2 := blk_frozen BK172.out 2; have hfz38_3 := blk_frozen BK172.out 3; have hfz38_4 := blk_frozen BK172.out 4) | ((with_reducible refine gate_builtin (b := .append) (xs := #[.tmp 63, .tmp 64]) rfl ?_); at_builtin; refine Kd.R_append (Kd.int .u8) (w0 := w) w.heap.size rfl (.tmp 63) (.tmp 64) 31 5 (.int .u8 0) 1 rfl Tryd.underlying31 info5 rfl (by decide) (by omega) u173003 x173003_1 9 [.int .u8 9] (fun _ => True) (fun _ => False) rfl rfl ?aP (fun _ hk => hk.elim) ?aF ?aO ?aB ?aS ?aL ?_; (case aP => exact rfl); (case aB => exact (by repeat (first | (with_reducible first | exact HB.out | apply below_alloc | apply pw_below_drewN | apply below_drew1 | refine below_set ?_ GE168.out | refine below_set ?_ GE172.out) | exact HB.out))); (case aF => exact (fun _ _ => trivial)); (case aO => exact (by (with_reducible repeat (first | apply Kd.R_alloc | apply Kd.R_drewN | apply Kd.R_drew)); exact HO_173003.out)); (case aS => exact (below_size (by repeat (first | (with_reducible first | exact HB.out | apply below_alloc | apply pw_below_drewN | apply below_drew1 | refine below_set ?_ GE168.out | refine below_set ?_ GE172.out) | exact HB.out)))); (case aL => have := LMc36.out; omega); intro v181 w39 ho hb hg hat; rw [← Ny180.out] at ho; have n0_ := Aside0.mk (blk_grown (g := gb168) (o := .cells #[.int .i64 x169000_1, .string x169001_1, .int .i64 x169002_1, .slice none 0 0, .int .i64 x169004_1] 33 (0, 0)) (by (with_reducible repeat (first | refine blk_drewN ?_ _ | refine blk_drew ?_ | refine blk_alloc ?_ _)); exact BK168.out) hg (Kd.R_ne HO_173003.out BK168.out (by decide))); have n1_ := Aside0.mk (blk_grown (g := gb172) (o := .cells #[.int .i64 4, .string (⟨#[]⟩ : ByteArray), .int .i64 0, u173003, .int .i64 a1] 33 (0, 0)) (by (with_reducible repeat (first | refine blk_drewN ?_ _ | refine blk_drew ?_ | refine blk_alloc ?_ _)); exact BK172.out) hg (Kd.R_ne HO_173003.out BK172.out (by decide))); have n2_ := Aside0.mk (hb); have n3_ := Aside0.mk (ho); clear BK168; clear BK172; clear HB; clear HO_173003; have BK168 := n0_; have BK172 := n1_; have HB := n2_; have HO182 := n3_; clear n0_ n1_ n2_ n3_; clear ho hb hg hat; obtain ⟨Ao40, co40, eo40⟩ := Kd.R_slice HO182.out; subst eo40; have hcz41_0 : w39.cell? ⟨gb172, 0, none⟩ = some (.int .i64 4) := (blk_cell BK172.out 0).trans rfl; have hcz41_1 : w39.cell? ⟨gb172, 1, none⟩ = some (.string (⟨#[]⟩ : ByteArray)) := (blk_cell BK172.out 1).trans rfl; have hcz41_2 : w39.cell? ⟨gb172, 2, none⟩ = some (.int .i64 0) := (blk_cell BK172.out 2).trans rfl; have hcz41_3 : w39.cell? ⟨gb172, 3, none⟩ = some (u173003) := (blk_cell BK172.out 3).trans rfl; have hcz41_4 : w39.cell? ⟨gb172, 4, none⟩ = some (.int .i64 a1) := (blk_cell BK172.out 4).trans rfl; have hfz41_0 := blk_frozen BK172.out 0; have hfz41_1 := blk_frozen BK172.out 1; have hfz41_2 := blk_frozen BK172.out 2; have hfz41_3 := blk_frozen BK172.out 3; have hfz41_4 := blk_frozen BK172.out 4))
                            go_roundg k1
                            case measure => have := HK1.out; omega
                            case rel => exact ⟨(wrap64 ((ji24) + 1)), (x169000_1), (x169001_1), (x169002_1), (x169004_1), (y180), (.slice Ao40 y180.length co40), (by first | rfl | (simp; done) | (simp only [← hji24] <;> (first | rfl | (simp; done))) | (simp [*]; done)), H', ⟨by have := HK1.out; omega⟩, ⟨by (with_reducible repeat (first | apply Kd.R_alloc | apply Kd.R_drewN | apply Kd.R_drew)); exact Kd.R_mono (Kd.R_far (p := ⟨gb172, 3, none⟩) (Kd.R_types HO182.out BK172.out (by decide)) (fun _ hk => hk.2) (.slice Ao40 y180.length co40)) (fun _ hk => trivial)⟩, ⟨by (with_reducible repeat (first | refine blk_drewN ?_ _ | refine blk_drew ?_ | refine blk_alloc ?_ _)); refine blk_far ?_ NB168_172.out _; (with_reducible repeat (first | refine blk_drewN ?_ _ | refine blk_drew ?_ | refine blk_alloc ?_ _)); exact BK168.out⟩, ⟨by (with_reducible repeat (first | refine blk_drewN ?_ _ | refine blk_drew ?_ | refine blk_alloc ?_ _)); refine blk_put (cs := #[.int .i64 4, .string (⟨#[]⟩ : ByteArray), .int .i64 0, u173003, .int .i64 a1]) ?_ 3 _ rfl; (with_reducible repeat (first | refine blk_drewN ?_ _ | refine blk_drew ?_ | refine blk_alloc ?_ _)); exact BK172.out⟩, ⟨by repeat (first | (with_reducible first | exact HB.out | apply below_alloc | apply pw_below_drewN | apply below_drew1 | refine below_set ?_ GE168.out | refine below_set ?_ GE172.out) | exact HB.out)⟩⟩
                          · rw [if_neg c36] at H
                            exact absurd H (by simp)
                        · rw [if_neg c35] at H
                          have c35b0 : ((bt a0 (ji24)) == 116) = false := beq_eq_false_iff_ne.mpr c35
                          have c35b1 : ((bt a0 (ji24)) != 116) = true := bne_iff_ne.mpr c35
                          have HC42 := Aside0.mk H
                          clear H
                          have p12 : 0 ≤ (x8_1 : Int) := of_decide_eq_true (by first | (with_reducible assumption) | assumption)
                          have q12 : x8_1 < (a0.size : Int) := of_decide_eq_true (by first | (with_reducible assumption) | assumption)
                          have hx12 := bt_at a0 x8_1
                          replace p12 := eq_true p12
                          replace q12 := eq_true q12
                          go_upto_if 67 with (first | ((with_reducible refine gate_callee (f := 40) rfl ?_); refine goesL_ (some 28) rfl rfl Tryd.func40 (by kernel_rfl) rfl #[.int .u8 (bt a0 x8_1), .int .u8 32, .int .u8 126] rfl (by (try simp only [List.map_toArray, List.map_cons, List.map_nil]); first | done | rfl | (simp only [List.length_drop, List.length_take]; rfl)) ?_; (with_reducible refine (rookeryref15_between.calls (bt a0 x8_1) 32 126 true _ A18.out).mono ?_); rintro e w' ⟨rfl, ⟨nd, rfl⟩⟩; refine ⟨_, rfl, ?_⟩; have p27 : 0 ≤ ((ji24) : Int) := of_decide_eq_true (by first | (with_reducible assumption) | assumption); have q27 : (ji24) < (a0.size : Int) := of_decide_eq_true (by first | (with_reducible assumption) | assumption); have hx27 := bt_at a0 (ji24); replace p27 := eq_true p27; replace q27 := eq_true q27))
                          (try simp only [Act.put, List.setIfInBounds_toArray, List.set_cons_zero, List.set_cons_succ])
                          go_cut [67] (fun v67 wc => ∃ (kq : Nat) (x67_41 : Bool), v67 = .bool x67_41 ∧ Aside0 (rookeryref15_text.j1 kq a0 ji24 (bt a0 (ji24)) x67_41 4 (⟨#[]⟩ : ByteArray) 0 x173003_1 a1 = some (r1, r2, r3, r4, r5, r6, r7)) ∧ Aside0 (kq ≤ k1) ∧ Aside0 (Kd.R (Kd.int .u8) 5 wc w.heap.size (fun _ => True) u173003 x173003_1) ∧ Aside0 (wc.heap[gb168]? = some (.cells #[.int .i64 x169000_1, .string x169001_1, .int .i64 x169002_1, (.slice none 0 0), .int .i64 x169004_1] 33 (0, 0))) ∧ Aside0 (wc.heap[gb172]? = some (.cells #[.int .i64 4, .string (⟨#[]⟩ : ByteArray), .int .i64 0, u173003, .int .i64 a1] 33 (0, 0))) ∧ Aside0 (Below w.heap.size w wc))
                          case first =>
                            have H := HC42.out
                            clear HC42
                            by_cases c43 : (bt a0 (ji24)) = 34
                            · rw [if_pos c43] at H
                              have c43b0 : ((bt a0 (ji24)) == 34) = true := beq_iff_eq.mpr c43
                              have c43b1 : ((bt a0 (ji24)) != 34) = false := bne_eq_false_iff_eq.mpr c43
                              clear c43
                              (first | rw [c43b0] | (simp only [i64_w, i32_w]; rw [c43b0]) | skip)
                              have H' := Aside0.mk H
                              clear H
                              go_wp2
                              go_meet
                              case rel => exact ⟨_, (((bt a0 (ji24)) == 34)), (by first | rfl | (simp; done) | (simp only [← hji24] <;> (first | rfl | (simp; done))) | (simp [*]; done)), H', ⟨by have := HK1.out; first | omega | exact Nat.le_refl _⟩, ⟨by (with_reducible repeat (first | apply Kd.R_alloc | apply Kd.R_drewN | apply Kd.R_drew)); exact HO_173003.out⟩, ⟨by (with_reducible repeat (first | refine blk_drewN ?_ _ | refine blk_drew ?_ | refine blk_alloc ?_ _)); exact BK168.out⟩, ⟨by (with_reducible repeat (first | refine blk_drewN ?_ _ | refine blk_drew ?_ | refine blk_alloc ?_ _)); exact BK172.out⟩, ⟨by repeat (first | (with_reducible first | exact HB.out | apply below_alloc | apply pw_below_drewN | apply below_drew1 | refine below_set ?_ GE168.out | refine below_set ?_ GE172.out) | exact HB.out)⟩⟩
                            · rw [if_neg c43] at H
                              have c43b0 : ((bt a0 (ji24)) == 34) = false := beq_eq_false_iff_ne.mpr c43
                              have c43b1 : ((bt a0 (ji24)) != 34) = true := bne_iff_ne.mpr c43
                              (first | rw [c43b0] | (simp only [i64_w, i32_w]; rw [c43b0]) | skip)
                              have H' := Aside0.mk H
                              clear H
                              go_wp2
                              go_meet
                              case rel => exact ⟨_, (((bt a0 (ji24)) == 92)), (by first | rfl | (simp; done) | (simp only [← hji24] <;> (first | rfl | (simp; done))) | (simp [*]; done)), H', ⟨by have := HK1.out; first | omega | exact Nat.le_refl _⟩, ⟨by (with_reducible repeat (first | apply Kd.R_alloc | apply Kd.R_drewN | apply Kd.R_drew)); exact HO_173003.out⟩, ⟨by (with_reducible repeat (first | refine blk_drewN ?_ _ | refine blk_drew ?_ | refine blk_alloc ?_ _)); exact BK168.out⟩, ⟨by (with_reducible repeat (first | refine blk_drewN ?_ _ | refine blk_drew ?_ | refine blk_alloc ?_ _)); exact BK172.out⟩, ⟨by repeat (first | (with_reducible first | exact HB.out | apply below_alloc | apply pw_below_drewN | apply below_drew1 | refine below_set ?_ GE168.out | refine below_set ?_ GE172.out) | exact HB.out)⟩⟩
                          case rest =>
                            clear HC42
                            try clear c1
                            try clear p1
                            try clear q1
                            try clear hx1
                            try clear c2
                            try clear p2
                            try clear q2
                            try clear hx2
                            try clear c3
                            try clear c4
                            try clear c5
                            try clear p6
                            try clear c8
                            try clear c10
                            try clear c10b0
                            try clear c11
                            try clear c11b0
                            try clear p12
                            try clear q12
                            try clear hx12
                            try clear c13
                            try clear c13b0
                            try clear c13b1
                            try clear c14
                            try clear c19
                            try clear c20
                            try clear c20b0
                            try clear c20b1
                            try clear c21
                            try clear c21b0
                            try clear c21b1
                            try clear c22
                            try clear c25
                            try clear c25b0
                            try clear c26
                            try clear c26b0
                            try clear p27
                            try clear q27
                            try clear hx27
                            try clear c28
                            try clear c28b0
                            try clear c28b1
                            try clear c29
                            try clear c30
                            try clear c35
                            try clear c35b0
                            try clear c35b1
                            try clear c36
                            try clear c37
                            try clear c40
                            try clear c43
                            try clear c43b0
                            try clear c43b1
                            try clear hcz15_0
                            try clear hcz15_1
                            try clear hcz15_2
                            try clear hcz15_3
                            try clear hcz15_4
                            try clear hcz16_0
                            try clear hcz16_1
                            try clear hcz16_2
                            try clear hcz16_3
                            try clear hcz16_4
                            try clear hcz23_0
                            try clear hcz23_1
                            try clear hcz23_2
                            try clear hcz23_3
                            try clear hcz23_4
                            try clear hcz31_0
                            try clear hcz31_1
                            try clear hcz31_2
                            try clear hcz31_3
                            try clear hcz31_4
                            try clear hcz34_0
                            try clear hcz34_1
                            try clear hcz34_2
                            try clear hcz34_3
                            try clear hcz34_4
                            try clear hcz38_0
                            try clear hcz38_1
                            try clear hcz38_2
                            try clear hcz38_3
                            try clear hcz38_4
                            try clear hcz41_0
                            try clear hcz41_1
                            try clear hcz41_2
                            try clear hcz41_3
                            try clear hcz41_4
                            try clear hcz9_0
                            try clear hcz9_1
                            try clear hcz9_2
                            try clear hcz9_3
                            try clear hcz9_4
                            try clear hfz15_0
                            try clear hfz15_1
                            try clear hfz15_2
                            try clear hfz15_3
                            try clear hfz15_4
                            try clear hfz16_0
                            try clear hfz16_1
                            try clear hfz16_2
                            try clear hfz16_3
                            try clear hfz16_4
                            try clear hfz23_0
                            try clear hfz23_1
                            try clear hfz23_2
                            try clear hfz23_3
                            try clear hfz23_4
                            try clear hfz31_0
                            try clear hfz31_1
                            try clear hfz31_2
                            try clear hfz31_3
                            try clear hfz31_4
                            try clear hfz34_0
                            try clear hfz34_1
                            try clear hfz34_2
                            try clear hfz34_3
                            try clear hfz34_4
                            try clear hfz38_0
                            try clear hfz38_1
                            try clear hfz38_2
                            try clear hfz38_3
                            try clear hfz38_4
                            try clear hfz41_0
                            try clear hfz41_1
                            try clear hfz41_2
                            try clear hfz41_3
                            try clear hfz41_4
                            try clear hfz9_0
                            try clear hfz9_1
                            try clear hfz9_2
                            try clear hfz9_3
                            try clear hfz9_4
                            try clear p12
                            try clear p2
                            try clear p27
                            try clear p6
                            try clear q12
                            try clear q27
                            obtain ⟨kq, x67_41, rfl, HA, HJ41, HO_173003, BK168, BK172, HB⟩ := hcut
                            cases kq with
                            | zero => exact absurd HA.out (by simp [rookeryref15_text.j1])
                            | succ kj41 =>
                              have H := HA.out
                              clear HA
                              simp only [rookeryref15_text.j1] at H
                              by_cases c44 : x67_41 = true
                              · subst c44
                                have H1 : (if 0 ≤ ji24 then (if ji24 < (a0.size : Int) then (if x173003_1.length < 140737488355328 then (rookeryref15_text.l0 kj41 a0 (wrap64 (ji24 + 1)) 4 (⟨#[]⟩ : ByteArray) 0 (x173003_1 ++ [bt a0 ji24]) a1) else (none)) else (none)) else (none)) = some (r1, r2, r3, r4, r5, r6, r7) := by rw [if_pos rfl] at H; exact H
                                clear H
                                have H := H1
                                clear H1
                                by_cases c45 : 0 ≤ ji24
                                · rw [if_pos c45] at H
                                  have c45b0 : decide (0 ≤ ji24) = true := decide_eq_true c45
                                  clear c45
                                  by_cases c46 : ji24 < (a0.size : Int)
                                  · rw [if_pos c46] at H
                                    have c46b0 : decide (ji24 < (a0.size : Int)) = true := decide_eq_true c46
                                    clear c46
                                    by_cases c48 : x173003_1.length < 140737488355328
                                    · rw [if_pos c48] at H
                                      have LMc48 := Aside0.mk c48
                                      clear c48
                                      obtain ⟨y183, hy183⟩ : ∃ y_ : List Int, y_ = (x173003_1 ++ [bt a0 ji24]) := ⟨_, rfl⟩
                                      replace H : (rookeryref15_text.l0 kj41 a0 (wrap64 (ji24 + 1)) 4 (⟨#[]⟩ : ByteArray) 0 y183 a1) = some (r1, r2, r3, r4, r5, r6, r7) := by first | (rw [hy183]; with_reducible exact H) | (have H2_ := (Option.bind_some _ _).symm.trans H; rw [hy183]; with_reducible exact H2_) | (have H2_ := (Option.bind_some _ _).symm.trans H; with_reducible exact H2_) | with_reducible exact H | (rw [hy183]; exact H) | exact H
                                      have Ny183 := Aside0.mk hy183
                                      clear hy183
                                      have H' := Aside0.mk H
                                      clear H
                                      try go_wp2
                                      have n0_ := Aside0.mk (Kd.R_drew HO_173003.out)
                                      have n1_ := Aside0.mk (blk_drew BK168.out)
                                      have n2_ := Aside0.mk (blk_drew BK172.out)
                                      have n3_ := Aside0.mk (below_drew1 HB.out)
                                      clear HO_173003
                                      clear BK168
                                      clear BK172
                                      clear HB
                                      have HO_173003 := n0_
                                      have BK168 := n1_
                                      have BK172 := n2_
                                      have HB := n3_
                                      clear n0_ n1_ n2_ n3_
                                      have p47 : 0 ≤ (ji24 : Int) := of_decide_eq_true (by first | (with_reducible assumption) | assumption)
                                      have q47 : ji24 < (a0.size : Int) := of_decide_eq_true (by first | (with_reducible assumption) | assumption)
                                      have hx47 := bt_at a0 ji24
                                      replace p47 := eq_true p47
                                      replace q47 := eq_true q47
                                      refine start_ (n := 9) (S := fun w' => w'.cell? ⟨gb172, 0, none⟩ = some (.int .i64 4) ∧ w'.cell? ⟨gb172, 1, none⟩ = some (.string (⟨#[]⟩ : ByteArray)) ∧ w'.cell? ⟨gb172, 2, none⟩ = some (.int .i64 0) ∧ w'.cell? ⟨gb172, 3, none⟩ = some (u173003) ∧ w'.cell? ⟨gb172, 4, none⟩ = some (.int .i64 a1)) (ds := [8]) #[false, false, false, false, false, false, false, false, false] (by kernel_rfl) rfl rfl ⟨(blk_cell BK172.out 0).trans rfl, (blk_cell BK172.out 1).trans rfl, (blk_cell BK172.out 2).trans rfl, (blk_cell BK172.out 3).trans rfl, (blk_cell BK172.out 4).trans rfl⟩ (fun hHeld => ?_); refine with_tabW rookeryref15_text.tab22 rookeryref15_text.bits22 (fun HT_ HW_ => ?_)
                                      generalize wc.drew = w49 at HO_173003 BK168 BK172 HB hHeld ⊢
                                      refine pure_ (i := 0) (N := some 70) (v := ?_) (a' := ?_) #[true, false, false, false, false, false, false, false, false] rfl rfl (any_of HT_.out (by kernel_rfl)) (fun _ _ _ h => h) (Or.inl ⟨by rfl, ?_⟩) ?_ ?_
                                      rotate_left
                                      · intro w'
                                        go_simp
                                        with_reducible rfl
                                      rotate_left
                                      · simp only [Act.put, List.setIfInBounds_toArray, List.set_cons_zero, List.set_cons_succ, i64_w, i32_w]
                                        rfl
                                      refine pure_ (i := 2) (N := some 72) (v := ?_) (a' := ?_) #[true, false, true, false, false, false, false, false, false] rfl rfl (any_of HT_.out (by kernel_rfl)) (fun _ _ _ h => h) (Or.inl ⟨by rfl, ?_⟩) ?_ ?_
                                      rotate_left
                                      · intro w'
                                        go_simp
                                        with_reducible rfl
                                      rotate_left
                                      · simp only [Act.put, List.setIfInBounds_toArray, List.set_cons_zero, List.set_cons_succ, i64_w, i32_w]
                                        rfl
                                      refine pure_ (i := 3) (N := some 73) (v := ?_) (a' := ?_) #[true, false, true, true, false, false, false, false, false] rfl rfl (any_of HT_.out (by kernel_rfl)) (fun _ _ _ h => h) (Or.inl ⟨by rfl, ?_⟩) ?_ ?_
                                      rotate_left
                                      · intro w'
                                        go_simp
                                        with_reducible rfl
                                      rotate_left
                                      · simp only [Act.put, List.setIfInBounds_toArray, List.set_cons_zero, List.set_cons_succ, i64_w, i32_w]
                                        rfl
                                      refine take_ (i := 1) (N := some 71) (v := ?_) (a' := ?_) #[true, true, true, true, false, false, false, false, false] rfl rfl (take_ofW HT_.out HW_.out (by kernel_rfl)) (fun _ _ _ h => h) (Or.inl ⟨by rfl, ?_⟩) hHeld ?_ ?_
                                      rotate_left
                                      · rintro w' ⟨s0, s1, s2, s3, s4⟩
                                        go_simp
                                        with_reducible rfl
                                      rotate_left
                                      · simp only [Act.put, List.setIfInBounds_toArray, List.set_cons_zero, List.set_cons_succ, i64_w, i32_w]
                                        rfl
                                      refine take_ (i := 4) (N := some 74) (v := ?_) (a' := ?_) #[true, true, true, true, true, false, false, false, false] rfl rfl (take_ofW HT_.out HW_.out (by kernel_rfl)) (fun _ _ _ h => h) (Or.inl ⟨by rfl, ?_⟩) hHeld ?_ ?_
                                      rotate_left
                                      · rintro w' ⟨s0, s1, s2, s3, s4⟩
                                        go_simp
                                        with_reducible rfl
                                      rotate_left
                                      · simp only [Act.put, List.setIfInBounds_toArray, List.set_cons_zero, List.set_cons_succ, i64_w, i32_w]
                                        rfl
                                      refine one_ (i := 5) (N := some 75) #[true, true, true, true, true, true, false, false, false] rfl rfl (one_of HT_.out (by kernel_rfl)) (by decide) (fun K hK => ?_)
                                      refine value_ (w1 := ?_) (v := ?_) (by rfl) rfl ?_ ?_
                                      rotate_left 2
                                      · go_simp
                                        constructor
                                        · rfl
                                        · rfl
                                      refine hK.out _ _ ⟨(blk_cell (blk_alloc BK172.out _) 0).trans rfl, (blk_cell (blk_alloc BK172.out _) 1).trans rfl, (blk_cell (blk_alloc BK172.out _) 2).trans rfl, (blk_cell (blk_alloc BK172.out _) 3).trans rfl, (blk_cell (blk_alloc BK172.out _) 4).trans rfl⟩ (fun hHeld => ?_)
                                      clear hK K
                                      refine norm_ (a' := ?_) ?_ ?_
                                      rotate_left
                                      · show Act.put _ (some 75) _ = _
                                        simp only [Act.put, List.setIfInBounds_toArray, List.set_cons_zero, List.set_cons_succ, i64_w, i32_w]
                                        rfl
                                      refine one_ (i := 6) (N := some 76) #[true, true, true, true, true, true, true, false, false] rfl rfl (one_of HT_.out (by kernel_rfl)) (by decide) (fun K hK => ?_)
                                      refine Kd.R_append_step (Kd.int .u8) (w0 := w) w.heap.size (by rfl) (.tmp 71) (.tmp 75) 31 5 (.int .u8 0) 1 rfl Tryd.underlying31 info5 rfl (by decide) (by omega) u173003 x173003_1 (bt a0 ji24) [.int .u8 (bt a0 ji24)] (fun _ => True) (fun _ => False) rfl rfl ?aP (fun _ hk => hk.elim) ?aF ?aO ?aB ?aS ?aL ?_
                                      (case aP => exact rfl)
                                      (case aB => exact (by repeat (first | (with_reducible first | exact HB.out | apply below_alloc | apply pw_below_drewN | apply below_drew1 | refine below_set ?_ GE168.out | refine below_set ?_ GE172.out) | exact HB.out)))
                                      (case aF => exact (fun _ _ => trivial))
                                      (case aO => exact (by (with_reducible repeat (first | apply Kd.R_alloc | apply Kd.R_drewN | apply Kd.R_drew)); exact HO_173003.out))
                                      (case aS => exact (below_size (by repeat (first | (with_reducible first | exact HB.out | apply below_alloc | apply pw_below_drewN | apply below_drew1 | refine below_set ?_ GE168.out | refine below_set ?_ GE172.out) | exact HB.out))))
                                      (case aL => have := LMc48.out; omega)
                                      intro v184 w50 ho hb hg hat
                                      rw [← Ny183.out] at ho
                                      have n0_ := Aside0.mk (blk_grown (g := gb168) (o := .cells #[.int .i64 x169000_1, .string x169001_1, .int .i64 x169002_1, .slice none 0 0, .int .i64 x169004_1] 33 (0, 0)) (by (with_reducible repeat (first | refine blk_drewN ?_ _ | refine blk_drew ?_ | refine blk_alloc ?_ _)); exact BK168.out) hg (Kd.R_ne HO_173003.out BK168.out (by decide)))
                                      have n1_ := Aside0.mk (blk_grown (g := gb172) (o := .cells #[.int .i64 4, .string (⟨#[]⟩ : ByteArray), .int .i64 0, u173003, .int .i64 a1] 33 (0, 0)) (by (with_reducible repeat (first | refine blk_drewN ?_ _ | refine blk_drew ?_ | refine blk_alloc ?_ _)); exact BK172.out) hg (Kd.R_ne HO_173003.out BK172.out (by decide)))
                                      have n2_ := Aside0.mk (hb)
                                      have n3_ := Aside0.mk (ho)
                                      clear BK168
                                      clear BK172
                                      clear HB
                                      clear HO_173003
                                      have BK168 := n0_
                                      have BK172 := n1_
                                      have HB := n2_
                                      have HO185 := n3_
                                      clear n0_ n1_ n2_ n3_
                                      clear ho hb hg hat
                                      obtain ⟨Ao51, co51, eo51⟩ := Kd.R_slice HO185.out
                                      (first | subst eo51 | (injection eo51 with f1_ f2_ f3_; have f4_ := f1_.symm; have f5_ := f3_.symm; clear f1_ f2_ f3_; subst f4_; subst f5_))
                                      refine hK.out _ _ ⟨(blk_cell BK172.out 0).trans rfl, (blk_cell BK172.out 1).trans rfl, (blk_cell BK172.out 2).trans rfl, (blk_cell BK172.out 3).trans rfl, (blk_cell BK172.out 4).trans rfl⟩ (fun hHeld => ?_)
                                      clear hK K
                                      refine norm_ (a' := ?_) ?_ ?_
                                      rotate_left
                                      · show Act.put _ (some 76) _ = _
                                        simp only [Act.put, List.setIfInBounds_toArray, List.set_cons_zero, List.set_cons_succ, i64_w, i32_w]
                                        rfl
                                      refine pure_ (i := 7) (N := some 77) (v := ?_) (a' := ?_) #[true, true, true, true, true, true, true, true, false] rfl rfl (any_of HT_.out (by kernel_rfl)) (fun _ _ _ h => h) (Or.inl ⟨by rfl, ?_⟩) ?_ ?_
                                      rotate_left
                                      · intro w'
                                        go_simp
                                        with_reducible rfl
                                      rotate_left
                                      · simp only [Act.put, List.setIfInBounds_toArray, List.set_cons_zero, List.set_cons_succ, i64_w, i32_w]
                                        rfl
                                      refine last_ (i := 8) (N := none) #[true, true, true, true, true, true, true, true, true] rfl rfl (one_of HT_.out (by kernel_rfl)) (by decide) (fun K hK => ?_)
                                      have hs52 : w50.cell? ⟨gb172, 3, none⟩ = some (u173003) := (blk_cell BK172.out 3).trans rfl
                                      have hfs52 := blk_frozen BK172.out 3
                                      have hns52_0 := NB168_172.out
                                      have hms52_0 := NB172_168.out
                                      refine skip_ (w1 := ?_) (by rfl) rfl ?_ ?_
                                      rotate_left
                                      · go_simp
                                        rfl
                                      refine hK.out _ _ ?_
                                      clear hK K
                                      refine done_ (done_of HT_.out (by kernel_rfl)) ?_
                                      try go_wp2
                                      go_roundg kj41
                                      case measure => have := HK1.out; have := HJ41.out; omega
                                      case rel => exact ⟨(wrap64 (ji24 + 1)), (x169000_1), (x169001_1), (x169002_1), (x169004_1), (y183), (.slice Ao51 y183.length co51), (by first | rfl | (simp; done) | (simp only [← hji24] <;> (first | rfl | (simp; done))) | (simp [*]; done)), H', ⟨by have := HK1.out; have := HJ41.out; omega⟩, ⟨by (with_reducible repeat (first | apply Kd.R_alloc | apply Kd.R_drewN | apply Kd.R_drew)); exact Kd.R_mono (Kd.R_far (p := ⟨gb172, 3, none⟩) (Kd.R_types HO185.out BK172.out (by decide)) (fun _ hk => hk.2) (.slice Ao51 y183.length co51)) (fun _ hk => trivial)⟩, ⟨by (with_reducible repeat (first | refine blk_drewN ?_ _ | refine blk_drew ?_ | refine blk_alloc ?_ _)); refine blk_far ?_ NB168_172.out _; (with_reducible repeat (first | refine blk_drewN ?_ _ | refine blk_drew ?_ | refine blk_alloc ?_ _)); exact BK168.out⟩, ⟨by (with_reducible repeat (first | refine blk_drewN ?_ _ | refine blk_drew ?_ | refine blk_alloc ?_ _)); refine blk_put (cs := #[.int .i64 4, .string (⟨#[]⟩ : ByteArray), .int .i64 0, u173003, .int .i64 a1]) ?_ 3 _ rfl; (with_reducible repeat (first | refine blk_drewN ?_ _ | refine blk_drew ?_ | refine blk_alloc ?_ _)); exact BK172.out⟩, ⟨by repeat (first | (with_reducible first | exact HB.out | apply below_alloc | apply pw_below_drewN | apply below_drew1 | refine below_set ?_ GE168.out | refine below_set ?_ GE172.out) | exact HB.out)⟩⟩
                                    · rw [if_neg c48] at H
                                      exact absurd H (by simp)
                                  · rw [if_neg c46] at H
                                    exact absurd H (by simp)
                                · rw [if_neg c45] at H
                                  exact absurd H (by simp)
                              · replace c44 := Bool.eq_false_iff.mpr c44
                                subst c44
                                have H1 : (if (bt a0 (ji24)) = 120 then (if (wrap64 (ji24 + 2)) ≥ (a0.size : Int) then (rookeryref15_text.j2 kj41 a0 ji24 true 4 (⟨#[]⟩ : ByteArray) 0 x173003_1 a1) else (if 0 ≤ (wrap64 (ji24 + 1)) then (if (wrap64 (ji24 + 1)) < (a0.size : Int) then ((rookeryref15_digit.f (bt a0 (wrap64 (ji24 + 1)))).bind fun t186 => (if t186 < 0 then (rookeryref15_text.j2 kj41 a0 ji24 true 4 (⟨#[]⟩ : ByteArray) 0 x173003_1 a1) else (if 0 ≤ (wrap64 (ji24 + 2)) then (if (wrap64 (ji24 + 2)) < (a0.size : Int) then ((rookeryref15_digit.f (bt a0 (wrap64 (ji24 + 2)))).bind fun t187 => (rookeryref15_text.j2 kj41 a0 ji24 (decide (t187 < 0)) 4 (⟨#[]⟩ : ByteArray) 0 x173003_1 a1)) else (none)) else (none)))) else (none)) else (none))) else (some (0, (⟨#[]⟩ : ByteArray), 0, ([] : List Int), 0, ji24, 154))) = some (r1, r2, r3, r4, r5, r6, r7) := by rw [if_neg (show ¬ (false = true) by decide)] at H; exact H
                                clear H
                                have H := H1
                                clear H1
                                by_cases c53 : (bt a0 (ji24)) = 120
                                · rw [if_pos c53] at H
                                  have c53b0 : ((bt a0 (ji24)) == 120) = true := beq_iff_eq.mpr c53
                                  have c53b1 : ((bt a0 (ji24)) != 120) = false := bne_eq_false_iff_eq.mpr c53
                                  clear c53
                                  have HC54 := Aside0.mk H
                                  clear H
                                  go_upto_region 24 with (fail)
                                  go_cut [100] (fun v100 wc => ∃ (kq : Nat) (x100_53 : Bool), v100 = .bool x100_53 ∧ Aside0 (rookeryref15_text.j2 kq a0 ji24 x100_53 4 (⟨#[]⟩ : ByteArray) 0 x173003_1 a1 = some (r1, r2, r3, r4, r5, r6, r7)) ∧ Aside0 (kq ≤ kj41) ∧ Aside0 (Kd.R (Kd.int .u8) 5 wc w.heap.size (fun _ => True) u173003 x173003_1) ∧ Aside0 (wc.heap[gb168]? = some (.cells #[.int .i64 x169000_1, .string x169001_1, .int .i64 x169002_1, (.slice none 0 0), .int .i64 x169004_1] 33 (0, 0))) ∧ Aside0 (wc.heap[gb172]? = some (.cells #[.int .i64 4, .string (⟨#[]⟩ : ByteArray), .int .i64 0, u173003, .int .i64 a1] 33 (0, 0))) ∧ Aside0 (Below w.heap.size w wc))
                                  case first =>
                                    have H := HC54.out
                                    clear HC54
                                    by_cases c55 : (wrap64 (ji24 + 2)) ≥ (a0.size : Int)
                                    · rw [if_pos c55] at H
                                      have c55b0 : decide ((a0.size : Int) ≤ (wrap64 (ji24 + 2))) = true := decide_eq_true c55
                                      clear c55
                                      (first | rw [c55b0] | (simp only [i64_w, i32_w]; rw [c55b0]) | skip)
                                      have H' := Aside0.mk H
                                      clear H
                                      go_wp2
                                      go_meet
                                      case rel => exact ⟨_, (true), (by first | rfl | (simp; done) | (simp [*]; done)), H', ⟨by have := HK1.out; have := HJ41.out; first | omega | exact Nat.le_refl _⟩, ⟨by (with_reducible repeat (first | apply Kd.R_alloc | apply Kd.R_drewN | apply Kd.R_drew)); exact HO_173003.out⟩, ⟨by (with_reducible repeat (first | refine blk_drewN ?_ _ | refine blk_drew ?_ | refine blk_alloc ?_ _)); exact BK168.out⟩, ⟨by (with_reducible repeat (first | refine blk_drewN ?_ _ | refine blk_drew ?_ | refine blk_alloc ?_ _)); exact BK172.out⟩, ⟨by repeat (first | (with_reducible first | exact HB.out | apply below_alloc | apply pw_below_drewN | apply below_drew1 | refine below_set ?_ GE168.out | refine below_set ?_ GE172.out) | exact HB.out)⟩⟩
                                    · rw [if_neg c55] at H
                                      have c55b0 : decide ((a0.size : Int) ≤ (wrap64 (ji24 + 2))) = false := decide_eq_false c55
                                      clear c55
                                      (first | rw [c55b0] | (simp only [i64_w, i32_w]; rw [c55b0]) | skip)
                                      obtain ⟨ji56, hji56⟩ : ∃ j_ : Int, (wrap64 (ji24 + 1)) = j_ := ⟨_, rfl⟩
                                      replace H : (if 0 ≤ (ji56) then (if (ji56) < (a0.size : Int) then ((rookeryref15_digit.f (bt a0 (ji56))).bind fun t186 => (if t186 < 0 then (rookeryref15_text.j2 kj41 a0 ji24 true 4 (⟨#[]⟩ : ByteArray) 0 x173003_1 a1) else (if 0 ≤ (wrap64 (ji24 + 2)) then (if (wrap64 (ji24 + 2)) < (a0.size : Int) then ((rookeryref15_digit.f (bt a0 (wrap64 (ji24 + 2)))).bind fun t187 => (rookeryref15_text.j2 kj41 a0 ji24 (decide (t187 < 0)) 4 (⟨#[]⟩ : ByteArray) 0 x173003_1 a1)) else (none)) else (none)))) else (none)) else (none)) = some (r1, r2, r3, r4, r5, r6, r7) := by first | (rw [hji56] at H; exact H) | (simp only [hji56] at H ⊢; exact H)
                                      have hji56w : (IntKind.i64.wrap (ji24 + 1)) = ji56 := (i64_w _).trans hji56
                                      by_cases c57 : 0 ≤ (ji56)
                                      · rw [if_pos c57] at H
                                        have c57b0 : decide (0 ≤ (ji56)) = true := decide_eq_true c57
                                        clear c57
                                        by_cases c58 : (ji56) < (a0.size : Int)
                                        · rw [if_pos c58] at H
                                          have c58b0 : decide ((ji56) < (a0.size : Int)) = true := decide_eq_true c58
                                          clear c58
                                          replace H := Option.bind_eq_some_iff.mp H
                                          obtain ⟨t186, A600, H⟩ := H
                                          replace H : (if t186 < 0 then (rookeryref15_text.j2 kj41 a0 ji24 true 4 (⟨#[]⟩ : ByteArray) 0 x173003_1 a1) else (if 0 ≤ (wrap64 (ji24 + 2)) then (if (wrap64 (ji24 + 2)) < (a0.size : Int) then ((rookeryref15_digit.f (bt a0 (wrap64 (ji24 + 2)))).bind fun t187 => (rookeryref15_text.j2 kj41 a0 ji24 (decide (t187 < 0)) 4 (⟨#[]⟩ : ByteArray) 0 x173003_1 a1)) else (none)) else (none))) = some (r1, r2, r3, r4, r5, r6, r7) := H
                                          have A60 := Aside0.mk A600
                                          clear A600
                                          by_cases c61 : t186 < 0
                                          · rw [if_pos c61] at H
                                            have c61b0 : decide (t186 < 0) = true := decide_eq_true c61
                                            clear c61
                                            have H' := Aside0.mk H
                                            clear H
                                            have p59 : 0 ≤ ((ji56) : Int) := of_decide_eq_true (by first | (with_reducible assumption) | assumption)
                                            have q59 : (ji56) < (a0.size : Int) := of_decide_eq_true (by first | (with_reducible assumption) | assumption)
                                            have hx59 := bt_at a0 (ji56)
                                            replace p59 := eq_true p59
                                            replace q59 := eq_true q59
                                            go_wp2_with (first | (go_at_call 72; (with_reducible refine (rookeryref15_digit.calls (bt a0 (ji56)) t186 _ A60.out).mono ?_); rintro e w' ⟨rfl, ⟨nd, rfl⟩⟩))
                                            go_meet
                                            case rel => exact ⟨_, (true), (by first | rfl | (simp; done) | (simp [*]; done)), H', ⟨by have := HK1.out; have := HJ41.out; first | omega | exact Nat.le_refl _⟩, ⟨by (with_reducible repeat (first | apply Kd.R_alloc | apply Kd.R_drewN | apply Kd.R_drew)); exact HO_173003.out⟩, ⟨by (with_reducible repeat (first | refine blk_drewN ?_ _ | refine blk_drew ?_ | refine blk_alloc ?_ _)); exact BK168.out⟩, ⟨by (with_reducible repeat (first | refine blk_drewN ?_ _ | refine blk_drew ?_ | refine blk_alloc ?_ _)); exact BK172.out⟩, ⟨by repeat (first | (with_reducible first | exact HB.out | apply below_alloc | apply pw_below_drewN | apply below_drew1 | refine below_set ?_ GE168.out | refine below_set ?_ GE172.out) | exact HB.out)⟩⟩
                                          · rw [if_neg c61] at H
                                            have c61b0 : decide (t186 < 0) = false := decide_eq_false c61
                                            clear c61
                                            obtain ⟨ji62, hji62⟩ : ∃ j_ : Int, (wrap64 (ji24 + 2)) = j_ := ⟨_, rfl⟩
                                            replace H : (if 0 ≤ (ji62) then (if (ji62) < (a0.size : Int) then ((rookeryref15_digit.f (bt a0 (ji62))).bind fun t187 => (rookeryref15_text.j2 kj41 a0 ji24 (decide (t187 < 0)) 4 (⟨#[]⟩ : ByteArray) 0 x173003_1 a1)) else (none)) else (none)) = some (r1, r2, r3, r4, r5, r6, r7) := by first | (rw [hji62] at H; exact H) | (simp only [hji62] at H ⊢; exact H)
                                            (try rw [hji62] at c55b0)
                                            (try rw [hji62] at A60)
                                            have hji62w : (IntKind.i64.wrap (ji24 + 2)) = ji62 := (i64_w _).trans hji62
                                            by_cases c63 : 0 ≤ (ji62)
                                            · rw [if_pos c63] at H
                                              have c63b0 : decide (0 ≤ (ji62)) = true := decide_eq_true c63
                                              clear c63
                                              by_cases c64 : (ji62) < (a0.size : Int)
                                              · rw [if_pos c64] at H
                                                have c64b0 : decide ((ji62) < (a0.size : Int)) = true := decide_eq_true c64
                                                clear c64
                                                replace H := Option.bind_eq_some_iff.mp H
                                                obtain ⟨t187, A660, H⟩ := H
                                                replace H : (rookeryref15_text.j2 kj41 a0 ji24 (decide (t187 < 0)) 4 (⟨#[]⟩ : ByteArray) 0 x173003_1 a1) = some (r1, r2, r3, r4, r5, r6, r7) := H
                                                have A66 := Aside0.mk A660
                                                clear A660
                                                have H' := Aside0.mk H
                                                clear H
                                                have p59 : 0 ≤ ((ji56) : Int) := of_decide_eq_true (by first | (with_reducible assumption) | assumption)
                                                have q59 : (ji56) < (a0.size : Int) := of_decide_eq_true (by first | (with_reducible assumption) | assumption)
                                                have hx59 := bt_at a0 (ji56)
                                                replace p59 := eq_true p59
                                                replace q59 := eq_true q59
                                                go_wp2_with (first | (go_at_call 72; (with_reducible refine (rookeryref15_digit.calls (bt a0 (ji56)) t186 _ A60.out).mono ?_); rintro e w' ⟨rfl, ⟨nd, rfl⟩⟩; have p65 : 0 ≤ ((ji62) : Int) := of_decide_eq_true (by first | (with_reducible assumption) | assumption); have q65 : (ji62) < (a0.size : Int) := of_decide_eq_true (by first | (with_reducible assumption) | assumption); have hx65 := bt_at a0 (ji62); replace p65 := eq_true p65; replace q65 := eq_true q65) | (go_at_call 72; (with_reducible refine (rookeryref15_digit.calls (bt a0 (ji62)) t187 _ A66.out).mono ?_); rintro e w' ⟨rfl, ⟨nd, rfl⟩⟩))
                                                go_meet
                                                case rel => exact ⟨_, (decide (t187 < 0)), (by first | rfl | (simp; done) | (simp [*]; done)), H', ⟨by have := HK1.out; have := HJ41.out; first | omega | exact Nat.le_refl _⟩, ⟨by (with_reducible repeat (first | apply Kd.R_alloc | apply Kd.R_drewN | apply Kd.R_drew)); exact HO_173003.out⟩, ⟨by (with_reducible repeat (first | refine blk_drewN ?_ _ | refine blk_drew ?_ | refine blk_alloc ?_ _)); exact BK168.out⟩, ⟨by (with_reducible repeat (first | refine blk_drewN ?_ _ | refine blk_drew ?_ | refine blk_alloc ?_ _)); exact BK172.out⟩, ⟨by repeat (first | (with_reducible first | exact HB.out | apply below_alloc | apply pw_below_drewN | apply below_drew1 | refine below_set ?_ GE168.out | refine below_set ?_ GE172.out) | exact HB.out)⟩⟩
                                              · rw [if_neg c64] at H
                                                exact absurd H (by simp)
                                            · rw [if_neg c63] at H
                                              exact absurd H (by simp)
                                        · rw [if_neg c58] at H
                                          exact absurd H (by simp)
                                      · rw [if_neg c57] at H
                                        exact absurd H (by simp)
                                  case rest =>
                                    clear HC54
                                    try clear c1
                                    try clear p1
                                    try clear q1
                                    try clear hx1
                                    try clear c2
                                    try clear p2
                                    try clear q2
                                    try clear hx2
                                    try clear c3
                                    try clear c4
                                    try clear p4
                                    try clear q4
                                    try clear hx4
                                    try clear c5
                                    try clear p5
                                    try clear q5
                                    try clear hx5
                                    try clear c6
                                    try clear p6
                                    try clear q6
                                    try clear hx6
                                    try clear c8
                                    try clear c10
                                    try clear c10b0
                                    try clear c11
                                    try clear c11b0
                                    try clear p12
                                    try clear q12
                                    try clear hx12
                                    try clear c13
                                    try clear c13b0
                                    try clear c13b1
                                    try clear c14
                                    try clear c19
                                    try clear c20
                                    try clear c20b0
                                    try clear c20b1
                                    try clear c21
                                    try clear c21b0
                                    try clear c21b1
                                    try clear c22
                                    try clear c25
                                    try clear c25b0
                                    try clear c26
                                    try clear c26b0
                                    try clear p27
                                    try clear q27
                                    try clear hx27
                                    try clear c28
                                    try clear c28b0
                                    try clear c28b1
                                    try clear c29
                                    try clear c30
                                    try clear c35
                                    try clear c35b0
                                    try clear c35b1
                                    try clear c36
                                    try clear c37
                                    try clear c40
                                    try clear c43
                                    try clear c43b0
                                    try clear c43b1
                                    try clear c44
                                    try clear c45
                                    try clear c45b0
                                    try clear c46
                                    try clear c46b0
                                    try clear p47
                                    try clear q47
                                    try clear hx47
                                    try clear c48
                                    try clear c53
                                    try clear c53b0
                                    try clear c53b1
                                    try clear c55
                                    try clear c55b0
                                    try clear c57
                                    try clear c57b0
                                    try clear c58
                                    try clear c58b0
                                    try clear p59
                                    try clear q59
                                    try clear hx59
                                    try clear c61
                                    try clear c61b0
                                    try clear c63
                                    try clear c63b0
                                    try clear c64
                                    try clear c64b0
                                    try clear p64
                                    try clear p65
                                    try clear q65
                                    try clear hx65
                                    try clear hcz15_0
                                    try clear hcz15_1
                                    try clear hcz15_2
                                    try clear hcz15_3
                                    try clear hcz15_4
                                    try clear hcz16_0
                                    try clear hcz16_1
                                    try clear hcz16_2
                                    try clear hcz16_3
                                    try clear hcz16_4
                                    try clear hcz23_0
                                    try clear hcz23_1
                                    try clear hcz23_2
                                    try clear hcz23_3
                                    try clear hcz23_4
                                    try clear hcz31_0
                                    try clear hcz31_1
                                    try clear hcz31_2
                                    try clear hcz31_3
                                    try clear hcz31_4
                                    try clear hcz34_0
                                    try clear hcz34_1
                                    try clear hcz34_2
                                    try clear hcz34_3
                                    try clear hcz34_4
                                    try clear hcz38_0
                                    try clear hcz38_1
                                    try clear hcz38_2
                                    try clear hcz38_3
                                    try clear hcz38_4
                                    try clear hcz41_0
                                    try clear hcz41_1
                                    try clear hcz41_2
                                    try clear hcz41_3
                                    try clear hcz41_4
                                    try clear hcz9_0
                                    try clear hcz9_1
                                    try clear hcz9_2
                                    try clear hcz9_3
                                    try clear hcz9_4
                                    try clear hfz15_0
                                    try clear hfz15_1
                                    try clear hfz15_2
                                    try clear hfz15_3
                                    try clear hfz15_4
                                    try clear hfz16_0
                                    try clear hfz16_1
                                    try clear hfz16_2
                                    try clear hfz16_3
                                    try clear hfz16_4
                                    try clear hfz23_0
                                    try clear hfz23_1
                                    try clear hfz23_2
                                    try clear hfz23_3
                                    try clear hfz23_4
                                    try clear hfz31_0
                                    try clear hfz31_1
                                    try clear hfz31_2
                                    try clear hfz31_3
                                    try clear hfz31_4
                                    try clear hfz34_0
                                    try clear hfz34_1
                                    try clear hfz34_2
                                    try clear hfz34_3
                                    try clear hfz34_4
                                    try clear hfz38_0
                                    try clear hfz38_1
                                    try clear hfz38_2
                                    try clear hfz38_3
                                    try clear hfz38_4
                                    try clear hfz41_0
                                    try clear hfz41_1
                                    try clear hfz41_2
                                    try clear hfz41_3
                                    try clear hfz41_4
                                    try clear hfz9_0
                                    try clear hfz9_1
                                    try clear hfz9_2
                                    try clear hfz9_3
                                    try clear hfz9_4
                                    try clear p1
                                    try clear p12
                                    try clear p2
                                    try clear p27
                                    try clear p47
                                    try clear p59
                                    try clear p6
                                    try clear p65
                                    try clear q1
                                    try clear q12
                                    try clear q2
                                    try clear q27
                                    try clear q47
                                    try clear q59
                                    try clear q65
                                    obtain ⟨kq, x100_53, rfl, HA, HJ53, HO_173003, BK168, BK172, HB⟩ := hcut
                                    cases kq with
                                    | zero => exact absurd HA.out (by simp [rookeryref15_text.j2])
                                    | succ kj53 =>
                                      have H := HA.out
                                      clear HA
                                      simp only [rookeryref15_text.j2] at H
                                      by_cases c67 : x100_53 = true
                                      · subst c67
                                        have H1 : (some (0, (⟨#[]⟩ : ByteArray), 0, ([] : List Int), 0, ji24, 154)) = some (r1, r2, r3, r4, r5, r6, r7) := by rw [if_pos rfl] at H; exact H
                                        clear H
                                        have H := H1
                                        clear H1
                                        simp only [Option.some.injEq, Prod.mk.injEq] at H
                                        obtain ⟨rfl, rfl, rfl, rfl, rfl, rfl, rfl⟩ := H
                                        have hnb68 := NB168_172.out
                                        have hnc68 := NB172_168.out
                                        have hcz69_0 : wc.cell? ⟨gb168, 0, none⟩ = some (.int .i64 x169000_1) := (blk_cell BK168.out 0).trans rfl
                                        have hcz69_1 : wc.cell? ⟨gb168, 1, none⟩ = some (.string x169001_1) := (blk_cell BK168.out 1).trans rfl
                                        have hcz69_2 : wc.cell? ⟨gb168, 2, none⟩ = some (.int .i64 x169002_1) := (blk_cell BK168.out 2).trans rfl
                                        have hcz69_3 : wc.cell? ⟨gb168, 3, none⟩ = some (.slice none 0 0) := (blk_cell BK168.out 3).trans rfl
                                        have hcz69_4 : wc.cell? ⟨gb168, 4, none⟩ = some (.int .i64 x169004_1) := (blk_cell BK168.out 4).trans rfl
                                        have hfz69_0 := blk_frozen BK168.out 0
                                        have hfz69_1 := blk_frozen BK168.out 1
                                        have hfz69_2 := blk_frozen BK168.out 2
                                        have hfz69_3 := blk_frozen BK168.out 3
                                        have hfz69_4 := blk_frozen BK168.out 4
                                        go_wp2
                                        refine bodyPost_ret (results_ctt rfl _ _ gb168 33 #[.int .i64 0, .string (⟨#[]⟩ : ByteArray), .int .i64 0, .slice none 0 0, .int .i64 0] (0, 0) _ rfl (by (with_reducible repeat (first | refine blk_drewN ?_ _ | refine blk_drew ?_ | refine blk_alloc ?_ _)); refine blk_put (cs := #[.int .i64 0, .string (⟨#[]⟩ : ByteArray), .int .i64 0, .slice none 0 0, .int .i64 x169004_1]) ?_ 4 _ rfl; (with_reducible repeat (first | refine blk_drewN ?_ _ | refine blk_drew ?_ | refine blk_alloc ?_ _)); refine blk_put (cs := #[.int .i64 0, .string (⟨#[]⟩ : ByteArray), .int .i64 0, .slice none 0 0, .int .i64 x169004_1]) ?_ 3 _ rfl; (with_reducible repeat (first | refine blk_drewN ?_ _ | refine blk_drew ?_ | refine blk_alloc ?_ _)); refine blk_put (cs := #[.int .i64 0, .string (⟨#[]⟩ : ByteArray), .int .i64 x169002_1, .slice none 0 0, .int .i64 x169004_1]) ?_ 2 _ rfl; (with_reducible repeat (first | refine blk_drewN ?_ _ | refine blk_drew ?_ | refine blk_alloc ?_ _)); refine blk_put (cs := #[.int .i64 0, .string x169001_1, .int .i64 x169002_1, .slice none 0 0, .int .i64 x169004_1]) ?_ 1 _ rfl; (with_reducible repeat (first | refine blk_drewN ?_ _ | refine blk_drew ?_ | refine blk_alloc ?_ _)); refine blk_put (cs := #[.int .i64 x169000_1, .string x169001_1, .int .i64 x169002_1, .slice none 0 0, .int .i64 x169004_1]) ?_ 0 _ rfl; (with_reducible repeat (first | refine blk_drewN ?_ _ | refine blk_drew ?_ | refine blk_alloc ?_ _)); exact BK168.out) Tryd.underlying33 rfl (by kernel_rfl)) rfl ?_
                                        exact ⟨_, by first | rfl | (simp [errW_none, errW_some] <;> rfl) | (simp only [← hji24]; first | rfl | (simp [errW_none, errW_some] <;> rfl)) | (simp [*, errW_none, errW_some] <;> rfl), by first | exact Kd.R_nil _ _ _ _ _ | exact Kd.N_nil _ _ _ _ _ | exact Kd.V_nil _ _ _ _ _ | exact Kd.Q_nil _ _ _ _ _ | exact Kd.S_nil _ _ _ _ _, by repeat (first | (with_reducible first | exact HB.out | apply below_alloc | apply pw_below_drewN | apply below_drew1 | refine below_set ?_ GE168.out | refine below_set ?_ GE172.out) | exact HB.out)⟩
                                      · replace c67 := Bool.eq_false_iff.mpr c67
                                        subst c67
                                        have H1 : (if 0 ≤ (wrap64 (ji24 + 1)) then (if (wrap64 (ji24 + 1)) < (a0.size : Int) then ((rookeryref15_digit.f (bt a0 (wrap64 (ji24 + 1)))).bind fun t188 => (if 0 ≤ (wrap64 (ji24 + 2)) then (if (wrap64 (ji24 + 2)) < (a0.size : Int) then ((rookeryref15_digit.f (bt a0 (wrap64 (ji24 + 2)))).bind fun t189 => (if x173003_1.length < 140737488355328 then (rookeryref15_text.l0 kj53 a0 (wrap64 ((wrap64 (ji24 + 2)) + 1)) 4 (⟨#[]⟩ : ByteArray) 0 (x173003_1 ++ [(wrap64 ((wrap64 (16 * t188)) + t189)) % 256]) a1) else (none))) else (none)) else (none))) else (none)) else (none)) = some (r1, r2, r3, r4, r5, r6, r7) := by rw [if_neg (show ¬ (false = true) by decide)] at H; exact H
                                        clear H
                                        have H := H1
                                        clear H1
                                        obtain ⟨ji70, hji70⟩ : ∃ j_ : Int, (wrap64 (ji24 + 1)) = j_ := ⟨_, rfl⟩
                                        replace H : (if 0 ≤ (ji70) then (if (ji70) < (a0.size : Int) then ((rookeryref15_digit.f (bt a0 (ji70))).bind fun t188 => (if 0 ≤ (wrap64 (ji24 + 2)) then (if (wrap64 (ji24 + 2)) < (a0.size : Int) then ((rookeryref15_digit.f (bt a0 (wrap64 (ji24 + 2)))).bind fun t189 => (if x173003_1.length < 140737488355328 then (rookeryref15_text.l0 kj53 a0 (wrap64 ((wrap64 (ji24 + 2)) + 1)) 4 (⟨#[]⟩ : ByteArray) 0 (x173003_1 ++ [(wrap64 ((wrap64 (16 * t188)) + t189)) % 256]) a1) else (none))) else (none)) else (none))) else (none)) else (none)) = some (r1, r2, r3, r4, r5, r6, r7) := by first | (rw [hji70] at H; exact H) | (simp only [hji70] at H ⊢; exact H)
                                        have hji70w : (IntKind.i64.wrap (ji24 + 1)) = ji70 := (i64_w _).trans hji70
                                        by_cases c71 : 0 ≤ (ji70)
                                        · rw [if_pos c71] at H
                                          have c71b0 : decide (0 ≤ (ji70)) = true := decide_eq_true c71
                                          clear c71
                                          by_cases c72 : (ji70) < (a0.size : Int)
                                          · rw [if_pos c72] at H
                                            have c72b0 : decide ((ji70) < (a0.size : Int)) = true := decide_eq_true c72
                                            clear c72
                                            replace H := Option.bind_eq_some_iff.mp H
                                            obtain ⟨t188, A740, H⟩ := H
                                            replace H : (if 0 ≤ (wrap64 (ji24 + 2)) then (if (wrap64 (ji24 + 2)) < (a0.size : Int) then ((rookeryref15_digit.f (bt a0 (wrap64 (ji24 + 2)))).bind fun t189 => (if x173003_1.length < 140737488355328 then (rookeryref15_text.l0 kj53 a0 (wrap64 ((wrap64 (ji24 + 2)) + 1)) 4 (⟨#[]⟩ : ByteArray) 0 (x173003_1 ++ [(wrap64 ((wrap64 (16 * t188)) + t189)) % 256]) a1) else (none))) else (none)) else (none)) = some (r1, r2, r3, r4, r5, r6, r7) := H
                                            have A74 := Aside0.mk A740
                                            clear A740
                                            obtain ⟨ji75, hji75⟩ : ∃ j_ : Int, (wrap64 (ji24 + 2)) = j_ := ⟨_, rfl⟩
                                            replace H : (if 0 ≤ (ji75) then (if (ji75) < (a0.size : Int) then ((rookeryref15_digit.f (bt a0 (ji75))).bind fun t189 => (if x173003_1.length < 140737488355328 then (rookeryref15_text.l0 kj53 a0 (wrap64 ((ji75) + 1)) 4 (⟨#[]⟩ : ByteArray) 0 (x173003_1 ++ [(wrap64 ((wrap64 (16 * t188)) + t189)) % 256]) a1) else (none))) else (none)) else (none)) = some (r1, r2, r3, r4, r5, r6, r7) := by first | (rw [hji75] at H; exact H) | (simp only [hji75] at H ⊢; exact H)
                                            (try rw [hji75] at A74)
                                            have hji75w : (IntKind.i64.wrap (ji24 + 2)) = ji75 := (i64_w _).trans hji75
                                            by_cases c76 : 0 ≤ (ji75)
                                            · rw [if_pos c76] at H
                                              have c76b0 : decide (0 ≤ (ji75)) = true := decide_eq_true c76
                                              clear c76
                                              by_cases c77 : (ji75) < (a0.size : Int)
                                              · rw [if_pos c77] at H
                                                have c77b0 : decide ((ji75) < (a0.size : Int)) = true := decide_eq_true c77
                                                clear c77
                                                replace H := Option.bind_eq_some_iff.mp H
                                                obtain ⟨t189, A790, H⟩ := H
                                                replace H : (if x173003_1.length < 140737488355328 then (rookeryref15_text.l0 kj53 a0 (wrap64 ((ji75) + 1)) 4 (⟨#[]⟩ : ByteArray) 0 (x173003_1 ++ [(wrap64 ((wrap64 (16 * t188)) + t189)) % 256]) a1) else (none)) = some (r1, r2, r3, r4, r5, r6, r7) := H
                                                have A79 := Aside0.mk A790
                                                clear A790
                                                by_cases c80 : x173003_1.length < 140737488355328
                                                · rw [if_pos c80] at H
                                                  have LMc80 := Aside0.mk c80
                                                  clear c80
                                                  obtain ⟨y190, hy190⟩ : ∃ y_ : List Int, y_ = (x173003_1 ++ [(wrap64 ((wrap64 (16 * t188)) + t189)) % 256]) := ⟨_, rfl⟩
                                                  replace H : (rookeryref15_text.l0 kj53 a0 (wrap64 ((ji75) + 1)) 4 (⟨#[]⟩ : ByteArray) 0 y190 a1) = some (r1, r2, r3, r4, r5, r6, r7) := by first | (rw [hy190]; with_reducible exact H) | (have H2_ := (Option.bind_some _ _).symm.trans H; rw [hy190]; with_reducible exact H2_) | (have H2_ := (Option.bind_some _ _).symm.trans H; with_reducible exact H2_) | with_reducible exact H | (rw [hy190]; exact H) | exact H
                                                  have Ny190 := Aside0.mk hy190
                                                  clear hy190
                                                  have H' := Aside0.mk H
                                                  clear H
                                                  try go_wp2
                                                  have n0_ := Aside0.mk (Kd.R_drew HO_173003.out)
                                                  have n1_ := Aside0.mk (blk_drew BK168.out)
                                                  have n2_ := Aside0.mk (blk_drew BK172.out)
                                                  have n3_ := Aside0.mk (below_drew1 HB.out)
                                                  clear HO_173003
                                                  clear BK168
                                                  clear BK172
                                                  clear HB
                                                  have HO_173003 := n0_
                                                  have BK168 := n1_
                                                  have BK172 := n2_
                                                  have HB := n3_
                                                  clear n0_ n1_ n2_ n3_
                                                  have p73 : 0 ≤ ((ji70) : Int) := of_decide_eq_true (by first | (with_reducible assumption) | assumption)
                                                  have q73 : (ji70) < (a0.size : Int) := of_decide_eq_true (by first | (with_reducible assumption) | assumption)
                                                  have hx73 := bt_at a0 (ji70)
                                                  replace p73 := eq_true p73
                                                  replace q73 := eq_true q73
                                                  have p78 : 0 ≤ ((ji75) : Int) := of_decide_eq_true (by first | (with_reducible assumption) | assumption)
                                                  have q78 : (ji75) < (a0.size : Int) := of_decide_eq_true (by first | (with_reducible assumption) | assumption)
                                                  have hx78 := bt_at a0 (ji75)
                                                  replace p78 := eq_true p78
                                                  replace q78 := eq_true q78
                                                  refine start_ (n := 19) (S := fun w' => w'.cell? ⟨gb172, 0, none⟩ = some (.int .i64 4) ∧ w'.cell? ⟨gb172, 1, none⟩ = some (.string (⟨#[]⟩ : ByteArray)) ∧ w'.cell? ⟨gb172, 2, none⟩ = some (.int .i64 0) ∧ w'.cell? ⟨gb172, 3, none⟩ = some (u173003) ∧ w'.cell? ⟨gb172, 4, none⟩ = some (.int .i64 a1)) (ds := [18]) #[false, false, false, false, false, false, false, false, false, false, false, false, false, false, false, false, false, false, false] (by kernel_rfl) rfl rfl ⟨(blk_cell BK172.out 0).trans rfl, (blk_cell BK172.out 1).trans rfl, (blk_cell BK172.out 2).trans rfl, (blk_cell BK172.out 3).trans rfl, (blk_cell BK172.out 4).trans rfl⟩ (fun hHeld => ?_); refine with_tabW rookeryref15_text.tab26 rookeryref15_text.bits26 (fun HT_ HW_ => ?_)
                                                  generalize wc.drew = w81 at HO_173003 BK168 BK172 HB hHeld ⊢
                                                  refine pure_ (i := 0) (N := some 103) (v := ?_) (a' := ?_) #[true, false, false, false, false, false, false, false, false, false, false, false, false, false, false, false, false, false, false] rfl rfl (any_of HT_.out (by kernel_rfl)) (fun _ _ _ h => h) (Or.inl ⟨by rfl, ?_⟩) ?_ ?_
                                                  rotate_left
                                                  · intro w'
                                                    go_simp
                                                    with_reducible rfl
                                                  rotate_left
                                                  · simp only [Act.put, List.setIfInBounds_toArray, List.set_cons_zero, List.set_cons_succ, i64_w, i32_w]
                                                    rfl
                                                  refine pure_ (i := 2) (N := some 105) (v := ?_) (a' := ?_) #[true, false, true, false, false, false, false, false, false, false, false, false, false, false, false, false, false, false, false] rfl rfl (any_of HT_.out (by kernel_rfl)) (fun _ _ _ h => h) (Or.inl ⟨by rfl, ?_⟩) ?_ ?_
                                                  rotate_left
                                                  · intro w'
                                                    go_simp
                                                    with_reducible rfl
                                                  rotate_left
                                                  · simp only [Act.put, List.setIfInBounds_toArray, List.set_cons_zero, List.set_cons_succ, i64_w, i32_w]
                                                    rfl
                                                  refine pure_ (i := 3) (N := some 106) (v := ?_) (a' := ?_) #[true, false, true, true, false, false, false, false, false, false, false, false, false, false, false, false, false, false, false] rfl rfl (any_of HT_.out (by kernel_rfl)) (fun _ _ _ h => h) (Or.inl ⟨by rfl, ?_⟩) ?_ ?_
                                                  rotate_left
                                                  · intro w'
                                                    go_simp
                                                    with_reducible rfl
                                                  rotate_left
                                                  · simp only [Act.put, List.setIfInBounds_toArray, List.set_cons_zero, List.set_cons_succ, i64_w, i32_w]
                                                    rfl
                                                  refine pure_ (i := 4) (N := some 107) (v := ?_) (a' := ?_) #[true, false, true, true, true, false, false, false, false, false, false, false, false, false, false, false, false, false, false] rfl rfl (any_of HT_.out (by kernel_rfl)) (fun _ _ _ h => h) (Or.inl ⟨by rfl, ?_⟩) ?_ ?_
                                                  rotate_left
                                                  · intro w'
                                                    go_simp
                                                    with_reducible rfl
                                                  rotate_left
                                                  · simp only [Act.put, List.setIfInBounds_toArray, List.set_cons_zero, List.set_cons_succ, i64_w, i32_w]
                                                    rfl
                                                  refine pure_ (i := 8) (N := some 111) (v := ?_) (a' := ?_) #[true, false, true, true, true, false, false, false, true, false, false, false, false, false, false, false, false, false, false] rfl rfl (any_of HT_.out (by kernel_rfl)) (fun _ _ _ h => h) (Or.inl ⟨by rfl, ?_⟩) ?_ ?_
                                                  rotate_left
                                                  · intro w'
                                                    go_simp
                                                    with_reducible rfl
                                                  rotate_left
                                                  · simp only [Act.put, List.setIfInBounds_toArray, List.set_cons_zero, List.set_cons_succ, i64_w, i32_w]
                                                    rfl
                                                  refine pure_ (i := 9) (N := some 112) (v := ?_) (a' := ?_) #[true, false, true, true, true, false, false, false, true, true, false, false, false, false, false, false, false, false, false] rfl rfl (any_of HT_.out (by kernel_rfl)) (fun _ _ _ h => h) (Or.inl ⟨by rfl, ?_⟩) ?_ ?_
                                                  rotate_left
                                                  · intro w'
                                                    go_simp
                                                    with_reducible rfl
                                                  rotate_left
                                                  · simp only [Act.put, List.setIfInBounds_toArray, List.set_cons_zero, List.set_cons_succ, i64_w, i32_w]
                                                    rfl
                                                  refine pure_ (i := 10) (N := some 113) (v := ?_) (a' := ?_) #[true, false, true, true, true, false, false, false, true, true, true, false, false, false, false, false, false, false, false] rfl rfl (any_of HT_.out (by kernel_rfl)) (fun _ _ _ h => h) (Or.inl ⟨by rfl, ?_⟩) ?_ ?_
                                                  rotate_left
                                                  · intro w'
                                                    go_simp
                                                    with_reducible rfl
                                                  rotate_left
                                                  · simp only [Act.put, List.setIfInBounds_toArray, List.set_cons_zero, List.set_cons_succ, i64_w, i32_w]
                                                    rfl
                                                  refine take_ (i := 1) (N := some 104) (v := ?_) (a' := ?_) #[true, true, true, true, true, false, false, false, true, true, true, false, false, false, false, false, false, false, false] rfl rfl (take_ofW HT_.out HW_.out (by kernel_rfl)) (fun _ _ _ h => h) (Or.inl ⟨by rfl, ?_⟩) hHeld ?_ ?_
                                                  rotate_left
                                                  · rintro w' ⟨s0, s1, s2, s3, s4⟩
                                                    go_simp
                                                    with_reducible rfl
                                                  rotate_left
                                                  · simp only [Act.put, List.setIfInBounds_toArray, List.set_cons_zero, List.set_cons_succ, i64_w, i32_w]
                                                    rfl
                                                  refine take_ (i := 5) (N := some 108) (v := ?_) (a' := ?_) #[true, true, true, true, true, true, false, false, true, true, true, false, false, false, false, false, false, false, false] rfl rfl (take_ofW HT_.out HW_.out (by kernel_rfl)) (fun _ _ _ h => h) (Or.inl ⟨by rfl, ?_⟩) hHeld ?_ ?_
                                                  rotate_left
                                                  · rintro w' ⟨s0, s1, s2, s3, s4⟩
                                                    go_simp
                                                    with_reducible rfl
                                                  rotate_left
                                                  · simp only [Act.put, List.setIfInBounds_toArray, List.set_cons_zero, List.set_cons_succ, i64_w, i32_w]
                                                    rfl
                                                  refine take_ (i := 11) (N := some 114) (v := ?_) (a' := ?_) #[true, true, true, true, true, true, false, false, true, true, true, true, false, false, false, false, false, false, false] rfl rfl (take_ofW HT_.out HW_.out (by kernel_rfl)) (fun _ _ _ h => h) (Or.inl ⟨by rfl, ?_⟩) hHeld ?_ ?_
                                                  rotate_left
                                                  · rintro w' ⟨s0, s1, s2, s3, s4⟩
                                                    go_simp
                                                    with_reducible rfl
                                                  rotate_left
                                                  · simp only [Act.put, List.setIfInBounds_toArray, List.set_cons_zero, List.set_cons_succ, i64_w, i32_w]
                                                    rfl
                                                  refine one_ (i := 6) (N := some 109) #[true, true, true, true, true, true, true, false, true, true, true, true, false, false, false, false, false, false, false] rfl rfl (one_of HT_.out (by kernel_rfl)) (by decide) (fun K hK => ?_)
                                                  refine goes_ Tryd.func72 (by kernel_rfl) rfl #[.int .u8 (bt a0 (ji70))] (by rfl) rfl rfl (by (try simp only [List.map_toArray, List.map_cons, List.map_nil]); first | done | (simp only [hji70]; rfl) | rfl | (simp only [List.length_drop, List.length_take]; rfl)) ?_
                                                  with_reducible refine (rookeryref15_digit.calls (bt a0 (ji70)) t188 _ A74.out).mono ?_
                                                  rintro e w' ⟨rfl, ⟨nd, rfl⟩⟩
                                                  refine ⟨_, rfl, ?_⟩
                                                  refine hK.out _ _ ⟨(blk_cell BK172.out 0).trans rfl, (blk_cell BK172.out 1).trans rfl, (blk_cell BK172.out 2).trans rfl, (blk_cell BK172.out 3).trans rfl, (blk_cell BK172.out 4).trans rfl⟩ (fun hHeld => ?_)
                                                  clear hK K
                                                  refine norm_ (a' := ?_) ?_ ?_
                                                  rotate_left
                                                  · show Act.put _ (some 109) _ = _
                                                    simp only [Act.put, List.setIfInBounds_toArray, List.set_cons_zero, List.set_cons_succ, i64_w, i32_w]
                                                    rfl
                                                  refine pure_ (i := 7) (N := some 110) (v := ?_) (a' := ?_) #[true, true, true, true, true, true, true, true, true, true, true, true, false, false, false, false, false, false, false] rfl rfl (any_of HT_.out (by kernel_rfl)) (fun _ _ _ h => h) (Or.inl ⟨by rfl, ?_⟩) ?_ ?_
                                                  rotate_left
                                                  · intro w'
                                                    go_simp
                                                    with_reducible rfl
                                                  rotate_left
                                                  · simp only [Act.put, List.setIfInBounds_toArray, List.set_cons_zero, List.set_cons_succ, i64_w, i32_w]
                                                    rfl
                                                  refine one_ (i := 12) (N := some 115) #[true, true, true, true, true, true, true, true, true, true, true, true, true, false, false, false, false, false, false] rfl rfl (one_of HT_.out (by kernel_rfl)) (by decide) (fun K hK => ?_)
                                                  refine goes_ Tryd.func72 (by kernel_rfl) rfl #[.int .u8 (bt a0 (ji75))] (by rfl) rfl rfl (by (try simp only [List.map_toArray, List.map_cons, List.map_nil]); first | done | (simp only [hji75]; rfl) | rfl | (simp only [List.length_drop, List.length_take]; rfl)) ?_
                                                  with_reducible refine (rookeryref15_digit.calls (bt a0 (ji75)) t189 _ A79.out).mono ?_
                                                  rintro e w' ⟨rfl, ⟨nd, rfl⟩⟩
                                                  refine ⟨_, rfl, ?_⟩
                                                  refine hK.out _ _ ⟨(blk_cell BK172.out 0).trans rfl, (blk_cell BK172.out 1).trans rfl, (blk_cell BK172.out 2).trans rfl, (blk_cell BK172.out 3).trans rfl, (blk_cell BK172.out 4).trans rfl⟩ (fun hHeld => ?_)
                                                  clear hK K
                                                  refine norm_ (a' := ?_) ?_ ?_
                                                  rotate_left
                                                  · show Act.put _ (some 115) _ = _
                                                    simp only [Act.put, List.setIfInBounds_toArray, List.set_cons_zero, List.set_cons_succ, i64_w, i32_w]
                                                    rfl
                                                  refine pure_ (i := 13) (N := some 116) (v := ?_) (a' := ?_) #[true, true, true, true, true, true, true, true, true, true, true, true, true, true, false, false, false, false, false] rfl rfl (any_of HT_.out (by kernel_rfl)) (fun _ _ _ h => h) (Or.inl ⟨by rfl, ?_⟩) ?_ ?_
                                                  rotate_left
                                                  · intro w'
                                                    go_simp
                                                    with_reducible rfl
                                                  rotate_left
                                                  · simp only [Act.put, List.setIfInBounds_toArray, List.set_cons_zero, List.set_cons_succ, i64_w, i32_w]
                                                    rfl
                                                  refine pure_ (i := 14) (N := some 117) (v := ?_) (a' := ?_) #[true, true, true, true, true, true, true, true, true, true, true, true, true, true, true, false, false, false, false] rfl rfl (any_of HT_.out (by kernel_rfl)) (fun _ _ _ h => h) (Or.inl ⟨by rfl, ?_⟩) ?_ ?_
                                                  rotate_left
                                                  · intro w'
                                                    go_simp
                                                    with_reducible rfl
                                                  rotate_left
                                                  · simp only [Act.put, List.setIfInBounds_toArray, List.set_cons_zero, List.set_cons_succ, i64_w, i32_w]
                                                    rfl
                                                  refine one_ (i := 15) (N := some 118) #[true, true, true, true, true, true, true, true, true, true, true, true, true, true, true, true, false, false, false] rfl rfl (one_of HT_.out (by kernel_rfl)) (by decide) (fun K hK => ?_)
                                                  refine value_ (w1 := ?_) (v := ?_) (by rfl) rfl ?_ ?_
                                                  rotate_left 2
                                                  · go_simp
                                                    constructor
                                                    · rfl
                                                    · rfl
                                                  refine hK.out _ _ ⟨(blk_cell (blk_alloc BK172.out _) 0).trans rfl, (blk_cell (blk_alloc BK172.out _) 1).trans rfl, (blk_cell (blk_alloc BK172.out _) 2).trans rfl, (blk_cell (blk_alloc BK172.out _) 3).trans rfl, (blk_cell (blk_alloc BK172.out _) 4).trans rfl⟩ (fun hHeld => ?_)
                                                  clear hK K
                                                  refine norm_ (a' := ?_) ?_ ?_
                                                  rotate_left
                                                  · show Act.put _ (some 118) _ = _
                                                    simp only [Act.put, List.setIfInBounds_toArray, List.set_cons_zero, List.set_cons_succ, i64_w, i32_w]
                                                    rfl
                                                  refine one_ (i := 16) (N := some 119) #[true, true, true, true, true, true, true, true, true, true, true, true, true, true, true, true, true, false, false] rfl rfl (one_of HT_.out (by kernel_rfl)) (by decide) (fun K hK => ?_)
                                                  refine Kd.R_append_step (Kd.int .u8) (w0 := w) w.heap.size (by rfl) (.tmp 104) (.tmp 118) 31 5 (.int .u8 0) 1 rfl Tryd.underlying31 info5 rfl (by decide) (by omega) u173003 x173003_1 ((wrap64 ((wrap64 (16 * t188)) + t189)) % 256) [.int .u8 ((wrap64 ((wrap64 (16 * t188)) + t189)) % 256)] (fun _ => True) (fun _ => False) rfl rfl ?aP (fun _ hk => hk.elim) ?aF ?aO ?aB ?aS ?aL ?_
                                                  (case aP => exact rfl)
                                                  (case aB => exact (by repeat (first | (with_reducible first | exact HB.out | apply below_alloc | apply pw_below_drewN | apply below_drew1 | refine below_set ?_ GE168.out | refine below_set ?_ GE172.out) | exact HB.out)))
                                                  (case aF => exact (fun _ _ => trivial))
                                                  (case aO => exact (by (with_reducible repeat (first | apply Kd.R_alloc | apply Kd.R_drewN | apply Kd.R_drew)); exact HO_173003.out))
                                                  (case aS => exact (below_size (by repeat (first | (with_reducible first | exact HB.out | apply below_alloc | apply pw_below_drewN | apply below_drew1 | refine below_set ?_ GE168.out | refine below_set ?_ GE172.out) | exact HB.out))))
                                                  (case aL => have := LMc80.out; omega)
                                                  intro v191 w82 ho hb hg hat
                                                  rw [← Ny190.out] at ho
                                                  have n0_ := Aside0.mk (blk_grown (g := gb168) (o := .cells #[.int .i64 x169000_1, .string x169001_1, .int .i64 x169002_1, .slice none 0 0, .int .i64 x169004_1] 33 (0, 0)) (by (with_reducible repeat (first | refine blk_drewN ?_ _ | refine blk_drew ?_ | refine blk_alloc ?_ _)); exact BK168.out) hg (Kd.R_ne HO_173003.out BK168.out (by decide)))
                                                  have n1_ := Aside0.mk (blk_grown (g := gb172) (o := .cells #[.int .i64 4, .string (⟨#[]⟩ : ByteArray), .int .i64 0, u173003, .int .i64 a1] 33 (0, 0)) (by (with_reducible repeat (first | refine blk_drewN ?_ _ | refine blk_drew ?_ | refine blk_alloc ?_ _)); exact BK172.out) hg (Kd.R_ne HO_173003.out BK172.out (by decide)))
                                                  have n2_ := Aside0.mk (hb)
                                                  have n3_ := Aside0.mk (ho)
                                                  clear BK168
                                                  clear BK172
                                                  clear HB
                                                  clear HO_173003
                                                  have BK168 := n0_
                                                  have BK172 := n1_
                                                  have HB := n2_
                                                  have HO192 := n3_
                                                  clear n0_ n1_ n2_ n3_
                                                  clear ho hb hg hat
                                                  obtain ⟨Ao83, co83, eo83⟩ := Kd.R_slice HO192.out
                                                  (first | subst eo83 | (injection eo83 with f1_ f2_ f3_; have f4_ := f1_.symm; have f5_ := f3_.symm; clear f1_ f2_ f3_; subst f4_; subst f5_))
                                                  refine hK.out _ _ ⟨(blk_cell BK172.out 0).trans rfl, (blk_cell BK172.out 1).trans rfl, (blk_cell BK172.out 2).trans rfl, (blk_cell BK172.out 3).trans rfl, (blk_cell BK172.out 4).trans rfl⟩ (fun hHeld => ?_)
                                                  clear hK K
                                                  refine norm_ (a' := ?_) ?_ ?_
                                                  rotate_left
                                                  · show Act.put _ (some 119) _ = _
                                                    simp only [Act.put, List.setIfInBounds_toArray, List.set_cons_zero, List.set_cons_succ, i64_w, i32_w]
                                                    rfl
                                                  refine pure_ (i := 17) (N := some 120) (v := ?_) (a' := ?_) #[true, true, true, true, true, true, true, true, true, true, true, true, true, true, true, true, true, true, false] rfl rfl (any_of HT_.out (by kernel_rfl)) (fun _ _ _ h => h) (Or.inl ⟨by rfl, ?_⟩) ?_ ?_
                                                  rotate_left
                                                  · intro w'
                                                    go_simp
                                                    with_reducible rfl
                                                  rotate_left
                                                  · simp only [Act.put, List.setIfInBounds_toArray, List.set_cons_zero, List.set_cons_succ, i64_w, i32_w]
                                                    rfl
                                                  refine last_ (i := 18) (N := none) #[true, true, true, true, true, true, true, true, true, true, true, true, true, true, true, true, true, true, true] rfl rfl (one_of HT_.out (by kernel_rfl)) (by decide) (fun K hK => ?_)
                                                  have hs84 : w82.cell? ⟨gb172, 3, none⟩ = some (u173003) := (blk_cell BK172.out 3).trans rfl
                                                  have hfs84 := blk_frozen BK172.out 3
                                                  have hns84_0 := NB168_172.out
                                                  have hms84_0 := NB172_168.out
                                                  refine skip_ (w1 := ?_) (by rfl) rfl ?_ ?_
                                                  rotate_left
                                                  · go_simp
                                                    rfl
                                                  refine hK.out _ _ ?_
                                                  clear hK K
                                                  refine done_ (done_of HT_.out (by kernel_rfl)) ?_
                                                  try go_wp2
                                                  go_roundg kj53
                                                  case measure => have := HK1.out; have := HJ41.out; have := HJ53.out; omega
                                                  case rel => exact ⟨(wrap64 ((ji75) + 1)), (x169000_1), (x169001_1), (x169002_1), (x169004_1), (y190), (.slice Ao83 y190.length co83), (by first | rfl | (simp; done) | (simp only [← hji75] <;> (first | rfl | (simp; done))) | (simp [*]; done)), H', ⟨by have := HK1.out; have := HJ41.out; have := HJ53.out; omega⟩, ⟨by (with_reducible repeat (first | apply Kd.R_alloc | apply Kd.R_drewN | apply Kd.R_drew)); exact Kd.R_mono (Kd.R_far (p := ⟨gb172, 3, none⟩) (Kd.R_types HO192.out BK172.out (by decide)) (fun _ hk => hk.2) (.slice Ao83 y190.length co83)) (fun _ hk => trivial)⟩, ⟨by (with_reducible repeat (first | refine blk_drewN ?_ _ | refine blk_drew ?_ | refine blk_alloc ?_ _)); refine blk_far ?_ NB168_172.out _; (with_reducible repeat (first | refine blk_drewN ?_ _ | refine blk_drew ?_ | refine blk_alloc ?_ _)); exact BK168.out⟩, ⟨by (with_reducible repeat (first | refine blk_drewN ?_ _ | refine blk_drew ?_ | refine blk_alloc ?_ _)); refine blk_put (cs := #[.int .i64 4, .string (⟨#[]⟩ : ByteArray), .int .i64 0, u173003, .int .i64 a1]) ?_ 3 _ rfl; (with_reducible repeat (first | refine blk_drewN ?_ _ | refine blk_drew ?_ | refine blk_alloc ?_ _)); exact BK172.out⟩, ⟨by repeat (first | (with_reducible first | exact HB.out | apply below_alloc | apply pw_below_drewN | apply below_drew1 | refine below_set ?_ GE168.out | refine below_set ?_ GE172.out) | exact HB.out)⟩⟩
                                                · rw [if_neg c80] at H
                                                  exact absurd H (by simp)
                                              · rw [if_neg c77] at H
                                                exact absurd H (by simp)
                                            · rw [if_neg c76] at H
                                              exact absurd H (by simp)
                                          · rw [if_neg c72] at H
                                            exact absurd H (by simp)
                                        · rw [if_neg c71] at H
                                          exact absurd H (by simp)
                                · rw [if_neg c53] at H
                                  have c53b0 : ((bt a0 (ji24)) == 120) = false := beq_eq_false_iff_ne.mpr c53
                                  have c53b1 : ((bt a0 (ji24)) != 120) = true := bne_iff_ne.mpr c53
                                  simp only [Option.some.injEq, Prod.mk.injEq] at H
                                  obtain ⟨rfl, rfl, rfl, rfl, rfl, rfl, rfl⟩ := H
                                  have hnb85 := NB168_172.out
                                  have hnc85 := NB172_168.out
                                  have hcz86_0 : wc.cell? ⟨gb168, 0, none⟩ = some (.int .i64 x169000_1) := (blk_cell BK168.out 0).trans rfl
                                  have hcz86_1 : wc.cell? ⟨gb168, 1, none⟩ = some (.string x169001_1) := (blk_cell BK168.out 1).trans rfl
                                  have hcz86_2 : wc.cell? ⟨gb168, 2, none⟩ = some (.int .i64 x169002_1) := (blk_cell BK168.out 2).trans rfl
                                  have hcz86_3 : wc.cell? ⟨gb168, 3, none⟩ = some (.slice none 0 0) := (blk_cell BK168.out 3).trans rfl
                                  have hcz86_4 : wc.cell? ⟨gb168, 4, none⟩ = some (.int .i64 x169004_1) := (blk_cell BK168.out 4).trans rfl
                                  have hfz86_0 := blk_frozen BK168.out 0
                                  have hfz86_1 := blk_frozen BK168.out 1
                                  have hfz86_2 := blk_frozen BK168.out 2
                                  have hfz86_3 := blk_frozen BK168.out 3
                                  have hfz86_4 := blk_frozen BK168.out 4
                                  go_wp2
                                  refine bodyPost_ret (results_ctt rfl _ _ gb168 33 #[.int .i64 0, .string (⟨#[]⟩ : ByteArray), .int .i64 0, .slice none 0 0, .int .i64 0] (0, 0) _ rfl (by (with_reducible repeat (first | refine blk_drewN ?_ _ | refine blk_drew ?_ | refine blk_alloc ?_ _)); refine blk_put (cs := #[.int .i64 0, .string (⟨#[]⟩ : ByteArray), .int .i64 0, .slice none 0 0, .int .i64 x169004_1]) ?_ 4 _ rfl; (with_reducible repeat (first | refine blk_drewN ?_ _ | refine blk_drew ?_ | refine blk_alloc ?_ _)); refine blk_put (cs := #[.int .i64 0, .string (⟨#[]⟩ : ByteArray), .int .i64 0, .slice none 0 0, .int .i64 x169004_1]) ?_ 3 _ rfl; (with_reducible repeat (first | refine blk_drewN ?_ _ | refine blk_drew ?_ | refine blk_alloc ?_ _)); refine blk_put (cs := #[.int .i64 0, .string (⟨#[]⟩ : ByteArray), .int .i64 x169002_1, .slice none 0 0, .int .i64 x169004_1]) ?_ 2 _ rfl; (with_reducible repeat (first | refine blk_drewN ?_ _ | refine blk_drew ?_ | refine blk_alloc ?_ _)); refine blk_put (cs := #[.int .i64 0, .string x169001_1, .int .i64 x169002_1, .slice none 0 0, .int .i64 x169004_1]) ?_ 1 _ rfl; (with_reducible repeat (first | refine blk_drewN ?_ _ | refine blk_drew ?_ | refine blk_alloc ?_ _)); refine blk_put (cs := #[.int .i64 x169000_1, .string x169001_1, .int .i64 x169002_1, .slice none 0 0, .int .i64 x169004_1]) ?_ 0 _ rfl; (with_reducible repeat (first | refine blk_drewN ?_ _ | refine blk_drew ?_ | refine blk_alloc ?_ _)); exact BK168.out) Tryd.underlying33 rfl (by kernel_rfl)) rfl ?_
                                  exact ⟨_, by first | rfl | (simp [errW_none, errW_some] <;> rfl) | (simp only [← hji24]; first | rfl | (simp [errW_none, errW_some] <;> rfl)) | (simp [*, errW_none, errW_some] <;> rfl), by first | exact Kd.R_nil _ _ _ _ _ | exact Kd.N_nil _ _ _ _ _ | exact Kd.V_nil _ _ _ _ _ | exact Kd.Q_nil _ _ _ _ _ | exact Kd.S_nil _ _ _ _ _, by repeat (first | (with_reducible first | exact HB.out | apply below_alloc | apply pw_below_drewN | apply below_drew1 | refine below_set ?_ GE168.out | refine below_set ?_ GE172.out) | exact HB.out)⟩
                    · rw [if_neg c26] at H
                      exact absurd H (by simp)
                  · rw [if_neg c25] at H
                    exact absurd H (by simp)
              · rw [if_neg c20] at H
                have c20b0 : ((bt a0 x8_1) == 92) = false := beq_eq_false_iff_ne.mpr c20
                have c20b1 : ((bt a0 x8_1) != 92) = true := bne_iff_ne.mpr c20
                by_cases c87 : x173003_1.length < 140737488355328
                · rw [if_pos c87] at H
                  have LMc87 := Aside0.mk c87
                  clear c87
                  obtain ⟨y174, hy174⟩ : ∃ y_ : List Int, y_ = (x173003_1 ++ [bt a0 x8_1]) := ⟨_, rfl⟩
                  replace H : (rookeryref15_text.l0 k1 a0 (wrap64 (x8_1 + 1)) 4 (⟨#[]⟩ : ByteArray) 0 y174 a1) = some (r1, r2, r3, r4, r5, r6, r7) := by first | (rw [hy174]; with_reducible exact H) | (have H2_ := (Option.bind_some _ _).symm.trans H; rw [hy174]; with_reducible exact H2_) | (have H2_ := (Option.bind_some _ _).symm.trans H; with_reducible exact H2_) | with_reducible exact H | (rw [hy174]; exact H) | exact H
                  have Ny174 := Aside0.mk hy174
                  clear hy174
                  have H' := Aside0.mk H
                  clear H
                  have p12 : 0 ≤ (x8_1 : Int) := of_decide_eq_true (by first | (with_reducible assumption) | assumption)
                  have q12 : x8_1 < (a0.size : Int) := of_decide_eq_true (by first | (with_reducible assumption) | assumption)
                  have hx12 := bt_at a0 x8_1
                  replace p12 := eq_true p12
                  replace q12 := eq_true q12
                  go_wp2_with (first | ((with_reducible refine gate_callee (f := 40) rfl ?_); refine goesL_ (some 28) rfl rfl Tryd.func40 (by kernel_rfl) rfl #[.int .u8 (bt a0 x8_1), .int .u8 32, .int .u8 126] rfl (by (try simp only [List.map_toArray, List.map_cons, List.map_nil]); first | done | rfl | (simp only [List.length_drop, List.length_take]; rfl)) ?_; (with_reducible refine (rookeryref15_between.calls (bt a0 x8_1) 32 126 true _ A18.out).mono ?_); rintro e w' ⟨rfl, ⟨nd, rfl⟩⟩; refine ⟨_, rfl, ?_⟩; (try (rw [drewN_self wr]; generalize hq_ : World.drewN wr _ = wr; have n0_ : Aside0 (Kd.R (Kd.int .u8) 5 wr w.heap.size (fun _ => True) u173003 x173003_1) := ⟨by rw [← hq_]; exact (by (with_reducible repeat (first | apply Kd.R_alloc | apply Kd.R_drewN | apply Kd.R_drew)); exact HO_173003.out)⟩; have n1_ : Aside0 (wr.heap[gb168]? = some (.cells #[.int .i64 x169000_1, .string x169001_1, .int .i64 x169002_1, .slice none 0 0, .int .i64 x169004_1] 33 (0, 0))) := ⟨by rw [← hq_]; exact (by (with_reducible repeat (first | refine blk_drewN ?_ _ | refine blk_drew ?_ | refine blk_alloc ?_ _)); exact BK168.out)⟩; have n2_ : Aside0 (wr.heap[gb172]? = some (.cells #[.int .i64 4, .string (⟨#[]⟩ : ByteArray), .int .i64 0, u173003, .int .i64 a1] 33 (0, 0))) := ⟨by rw [← hq_]; exact (by (with_reducible repeat (first | refine blk_drewN ?_ _ | refine blk_drew ?_ | refine blk_alloc ?_ _)); exact BK172.out)⟩; have n3_ : Aside0 (Below w.heap.size w wr) := ⟨by rw [← hq_]; exact (by repeat (first | (with_reducible first | exact HB.out | apply below_alloc | apply pw_below_drewN | apply below_drew1 | refine below_set ?_ GE168.out | refine below_set ?_ GE172.out) | exact HB.out))⟩; clear HO_173003 BK168 BK172 HB hq_; have HO_173003 := n0_; have BK168 := n1_; have BK172 := n2_; have HB := n3_; clear n0_ n1_ n2_ n3_)); have hnb88 := NB172_168.out; have hnc88 := NB168_172.out; have hcz89_0 : wr.cell? ⟨gb172, 0, none⟩ = some (.int .i64 4) := (blk_cell BK172.out 0).trans rfl; have hcz89_1 : wr.cell? ⟨gb172, 1, none⟩ = some (.string (⟨#[]⟩ : ByteArray)) := (blk_cell BK172.out 1).trans rfl; have hcz89_2 : wr.cell? ⟨gb172, 2, none⟩ = some (.int .i64 0) := (blk_cell BK172.out 2).trans rfl; have hcz89_3 : wr.cell? ⟨gb172, 3, none⟩ = some (u173003) := (blk_cell BK172.out 3).trans rfl; have hcz89_4 : wr.cell? ⟨gb172, 4, none⟩ = some (.int .i64 a1) := (blk_cell BK172.out 4).trans rfl; have hfz89_0 := blk_frozen BK172.out 0; have hfz89_1 := blk_frozen BK172.out 1; have hfz89_2 := blk_frozen BK172.out 2; have hfz89_3 := blk_frozen BK172.out 3; have hfz89_4 := blk_frozen BK172.out 4) | ((with_reducible refine gate_builtin (b := .append) (xs := #[.tmp 37, .tmp 39]) rfl ?_); at_builtin; refine Kd.R_append (Kd.int .u8) (w0 := w) w.heap.size rfl (.tmp 37) (.tmp 39) 31 5 (.int .u8 0) 1 rfl Tryd.underlying31 info5 rfl (by decide) (by omega) u173003 x173003_1 (bt a0 x8_1) [.int .u8 (bt a0 x8_1)] (fun _ => True) (fun _ => False) rfl rfl ?aP (fun _ hk => hk.elim) ?aF ?aO ?aB ?aS ?aL ?_; (case aP => exact rfl); (case aB => exact (by repeat (first | (with_reducible first | exact HB.out | apply below_alloc | apply pw_below_drewN | apply below_drew1 | refine below_set ?_ GE168.out | refine below_set ?_ GE172.out) | exact HB.out))); (case aF => exact (fun _ _ => trivial)); (case aO => exact (by (with_reducible repeat (first | apply Kd.R_alloc | apply Kd.R_drewN | apply Kd.R_drew)); exact HO_173003.out)); (case aS => exact (below_size (by repeat (first | (with_reducible first | exact HB.out | apply below_alloc | apply pw_below_drewN | apply below_drew1 | refine below_set ?_ GE168.out | refine below_set ?_ GE172.out) | exact HB.out)))); (case aL => have := LMc87.out; omega); intro v175 w90 ho hb hg hat; rw [← Ny174.out] at ho; have n0_ := Aside0.mk (blk_grown (g := gb168) (o := .cells #[.int .i64 x169000_1, .string x169001_1, .int .i64 x169002_1, .slice none 0 0, .int .i64 x169004_1] 33 (0, 0)) (by (with_reducible repeat (first | refine blk_drewN ?_ _ | refine blk_drew ?_ | refine blk_alloc ?_ _)); exact BK168.out) hg (Kd.R_ne HO_173003.out BK168.out (by decide))); have n1_ := Aside0.mk (blk_grown (g := gb172) (o := .cells #[.int .i64 4, .string (⟨#[]⟩ : ByteArray), .int .i64 0, u173003, .int .i64 a1] 33 (0, 0)) (by (with_reducible repeat (first | refine blk_drewN ?_ _ | refine blk_drew ?_ | refine blk_alloc ?_ _)); exact BK172.out) hg (Kd.R_ne HO_173003.out BK172.out (by decide))); have n2_ := Aside0.mk (hb); have n3_ := Aside0.mk (ho); clear BK168; clear BK172; clear HB; clear HO_173003; have BK168 := n0_; have BK172 := n1_; have HB := n2_; have HO176 := n3_; clear n0_ n1_ n2_ n3_; clear ho hb hg hat; obtain ⟨Ao91, co91, eo91⟩ := Kd.R_slice HO176.out; subst eo91; have hcz92_0 : w90.cell? ⟨gb172, 0, none⟩ = some (.int .i64 4) := (blk_cell BK172.out 0).trans rfl; have hcz92_1 : w90.cell? ⟨gb172, 1, none⟩ = some (.string (⟨#[]⟩ : ByteArray)) := (blk_cell BK172.out 1).trans rfl; have hcz92_2 : w90.cell? ⟨gb172, 2, none⟩ = some (.int .i64 0) := (blk_cell BK172.out 2).trans rfl; have hcz92_3 : w90.cell? ⟨gb172, 3, none⟩ = some (u173003) := (blk_cell BK172.out 3).trans rfl; have hcz92_4 : w90.cell? ⟨gb172, 4, none⟩ = some (.int .i64 a1) := (blk_cell BK172.out 4).trans rfl; have hfz92_0 := blk_frozen BK172.out 0; have hfz92_1 := blk_frozen BK172.out 1; have hfz92_2 := blk_frozen BK172.out 2; have hfz92_3 := blk_frozen BK172.out 3; have hfz92_4 := blk_frozen BK172.out 4))
                  go_roundg k1
                  case measure => have := HK1.out; omega
                  case rel => exact ⟨(wrap64 (x8_1 + 1)), (x169000_1), (x169001_1), (x169002_1), (x169004_1), (y174), (.slice Ao91 y174.length co91), (by first | rfl | (simp; done) | (simp [*]; done)), H', ⟨by have := HK1.out; omega⟩, ⟨by (with_reducible repeat (first | apply Kd.R_alloc | apply Kd.R_drewN | apply Kd.R_drew)); exact Kd.R_mono (Kd.R_far (p := ⟨gb172, 3, none⟩) (Kd.R_types HO176.out BK172.out (by decide)) (fun _ hk => hk.2) (.slice Ao91 y174.length co91)) (fun _ hk => trivial)⟩, ⟨by (with_reducible repeat (first | refine blk_drewN ?_ _ | refine blk_drew ?_ | refine blk_alloc ?_ _)); refine blk_far ?_ NB168_172.out _; (with_reducible repeat (first | refine blk_drewN ?_ _ | refine blk_drew ?_ | refine blk_alloc ?_ _)); exact BK168.out⟩, ⟨by (with_reducible repeat (first | refine blk_drewN ?_ _ | refine blk_drew ?_ | refine blk_alloc ?_ _)); refine blk_put (cs := #[.int .i64 4, .string (⟨#[]⟩ : ByteArray), .int .i64 0, u173003, .int .i64 a1]) ?_ 3 _ rfl; (with_reducible repeat (first | refine blk_drewN ?_ _ | refine blk_drew ?_ | refine blk_alloc ?_ _)); exact BK172.out⟩, ⟨by repeat (first | (with_reducible first | exact HB.out | apply below_alloc | apply pw_below_drewN | apply below_drew1 | refine below_set ?_ GE168.out | refine below_set ?_ GE172.out) | exact HB.out)⟩⟩
                · rw [if_neg c87] at H
                  exact absurd H (by simp)
            · replace c19 := Bool.eq_false_iff.mpr c19
              subst c19
              have H1 : (some (0, (⟨#[]⟩ : ByteArray), 0, ([] : List Int), 0, x8_1, 154)) = some (r1, r2, r3, r4, r5, r6, r7) := by rw [if_neg (show ¬ (false = true) by decide)] at H; exact H
              clear H
              have H := H1
              clear H1
              simp only [Option.some.injEq, Prod.mk.injEq] at H
              obtain ⟨rfl, rfl, rfl, rfl, rfl, rfl, rfl⟩ := H
              have p12 : 0 ≤ (x8_1 : Int) := of_decide_eq_true (by first | (with_reducible assumption) | assumption)
              have q12 : x8_1 < (a0.size : Int) := of_decide_eq_true (by first | (with_reducible assumption) | assumption)
              have hx12 := bt_at a0 x8_1
              replace p12 := eq_true p12
              replace q12 := eq_true q12
              go_wp2_with (first | ((with_reducible refine gate_callee (f := 40) rfl ?_); refine goesL_ (some 28) rfl rfl Tryd.func40 (by kernel_rfl) rfl #[.int .u8 (bt a0 x8_1), .int .u8 32, .int .u8 126] rfl (by (try simp only [List.map_toArray, List.map_cons, List.map_nil]); first | done | rfl | (simp only [List.length_drop, List.length_take]; rfl)) ?_; (with_reducible refine (rookeryref15_between.calls (bt a0 x8_1) 32 126 false _ A18.out).mono ?_); rintro e w' ⟨rfl, ⟨nd, rfl⟩⟩; refine ⟨_, rfl, ?_⟩; (try (rw [drewN_self wr]; generalize hq_ : World.drewN wr _ = wr; have n0_ : Aside0 (Kd.R (Kd.int .u8) 5 wr w.heap.size (fun _ => True) u173003 x173003_1) := ⟨by rw [← hq_]; exact (by (with_reducible repeat (first | apply Kd.R_alloc | apply Kd.R_drewN | apply Kd.R_drew)); exact HO_173003.out)⟩; have n1_ : Aside0 (wr.heap[gb168]? = some (.cells #[.int .i64 x169000_1, .string x169001_1, .int .i64 x169002_1, .slice none 0 0, .int .i64 x169004_1] 33 (0, 0))) := ⟨by rw [← hq_]; exact (by (with_reducible repeat (first | refine blk_drewN ?_ _ | refine blk_drew ?_ | refine blk_alloc ?_ _)); exact BK168.out)⟩; have n2_ : Aside0 (wr.heap[gb172]? = some (.cells #[.int .i64 4, .string (⟨#[]⟩ : ByteArray), .int .i64 0, u173003, .int .i64 a1] 33 (0, 0))) := ⟨by rw [← hq_]; exact (by (with_reducible repeat (first | refine blk_drewN ?_ _ | refine blk_drew ?_ | refine blk_alloc ?_ _)); exact BK172.out)⟩; have n3_ : Aside0 (Below w.heap.size w wr) := ⟨by rw [← hq_]; exact (by repeat (first | (with_reducible first | exact HB.out | apply below_alloc | apply pw_below_drewN | apply below_drew1 | refine below_set ?_ GE168.out | refine below_set ?_ GE172.out) | exact HB.out))⟩; clear HO_173003 BK168 BK172 HB hq_; have HO_173003 := n0_; have BK168 := n1_; have BK172 := n2_; have HB := n3_; clear n0_ n1_ n2_ n3_)); have hnb93 := NB168_172.out; have hnc93 := NB172_168.out; have hcz94_0 : wr.cell? ⟨gb168, 0, none⟩ = some (.int .i64 x169000_1) := (blk_cell BK168.out 0).trans rfl; have hcz94_1 : wr.cell? ⟨gb168, 1, none⟩ = some (.string x169001_1) := (blk_cell BK168.out 1).trans rfl; have hcz94_2 : wr.cell? ⟨gb168, 2, none⟩ = some (.int .i64 x169002_1) := (blk_cell BK168.out 2).trans rfl; have hcz94_3 : wr.cell? ⟨gb168, 3, none⟩ = some (.slice none 0 0) := (blk_cell BK168.out 3).trans rfl; have hcz94_4 : wr.cell? ⟨gb168, 4, none⟩ = some (.int .i64 x169004_1) := (blk_cell BK168.out 4).trans rfl; have hfz94_0 := blk_frozen BK168.out 0; have hfz94_1 := blk_frozen BK168.out 1; have hfz94_2 := blk_frozen BK168.out 2; have hfz94_3 := blk_frozen BK168.out 3; have hfz94_4 := blk_frozen BK168.out 4))
              refine bodyPost_ret (results_ctt rfl _ _ gb168 33 #[.int .i64 0, .string (⟨#[]⟩ : ByteArray), .int .i64 0, .slice none 0 0, .int .i64 0] (0, 0) _ rfl (by (with_reducible repeat (first | refine blk_drewN ?_ _ | refine blk_drew ?_ | refine blk_alloc ?_ _)); refine blk_put (cs := #[.int .i64 0, .string (⟨#[]⟩ : ByteArray), .int .i64 0, .slice none 0 0, .int .i64 x169004_1]) ?_ 4 _ rfl; (with_reducible repeat (first | refine blk_drewN ?_ _ | refine blk_drew ?_ | refine blk_alloc ?_ _)); refine blk_put (cs := #[.int .i64 0, .string (⟨#[]⟩ : ByteArray), .int .i64 0, .slice none 0 0, .int .i64 x169004_1]) ?_ 3 _ rfl; (with_reducible repeat (first | refine blk_drewN ?_ _ | refine blk_drew ?_ | refine blk_alloc ?_ _)); refine blk_put (cs := #[.int .i64 0, .string (⟨#[]⟩ : ByteArray), .int .i64 x169002_1, .slice none 0 0, .int .i64 x169004_1]) ?_ 2 _ rfl; (with_reducible repeat (first | refine blk_drewN ?_ _ | refine blk_drew ?_ | refine blk_alloc ?_ _)); refine blk_put (cs := #[.int .i64 0, .string x169001_1, .int .i64 x169002_1, .slice none 0 0, .int .i64 x169004_1]) ?_ 1 _ rfl; (with_reducible repeat (first | refine blk_drewN ?_ _ | refine blk_drew ?_ | refine blk_alloc ?_ _)); refine blk_put (cs := #[.int .i64 x169000_1, .string x169001_1, .int .i64 x169002_1, .slice none 0 0, .int .i64 x169004_1]) ?_ 0 _ rfl; (with_reducible repeat (first | refine blk_drewN ?_ _ | refine blk_drew ?_ | refine blk_alloc ?_ _)); exact BK168.out) Tryd.underlying33 rfl (by kernel_rfl)) rfl ?_
              exact ⟨_, by first | rfl | (simp [errW_none, errW_some] <;> rfl) | (simp [*, errW_none, errW_some] <;> rfl), by first | exact Kd.R_nil _ _ _ _ _ | exact Kd.N_nil _ _ _ _ _ | exact Kd.V_nil _ _ _ _ _ | exact Kd.Q_nil _ _ _ _ _ | exact Kd.S_nil _ _ _ _ _, by repeat (first | (with_reducible first | exact HB.out | apply below_alloc | apply pw_below_drewN | apply below_drew1 | refine below_set ?_ GE168.out | refine below_set ?_ GE172.out) | exact HB.out)⟩
        · rw [if_neg c11] at H
          exact absurd H (by simp)
      · rw [if_neg c10] at H
        have c10b0 : decide (x8_1 < (a0.size : Int)) = false := decide_eq_false c10
        clear c10
        simp only [Option.some.injEq, Prod.mk.injEq] at H
        obtain ⟨rfl, rfl, rfl, rfl, rfl, rfl, rfl⟩ := H
        have hnb95 := NB168_172.out
        have hnc95 := NB172_168.out
        have hcz96_0 : wr.cell? ⟨gb168, 0, none⟩ = some (.int .i64 x169000_1) := (blk_cell BK168.out 0).trans rfl
        have hcz96_1 : wr.cell? ⟨gb168, 1, none⟩ = some (.string x169001_1) := (blk_cell BK168.out 1).trans rfl
        have hcz96_2 : wr.cell? ⟨gb168, 2, none⟩ = some (.int .i64 x169002_1) := (blk_cell BK168.out 2).trans rfl
        have hcz96_3 : wr.cell? ⟨gb168, 3, none⟩ = some (.slice none 0 0) := (blk_cell BK168.out 3).trans rfl
        have hcz96_4 : wr.cell? ⟨gb168, 4, none⟩ = some (.int .i64 x169004_1) := (blk_cell BK168.out 4).trans rfl
        have hfz96_0 := blk_frozen BK168.out 0
        have hfz96_1 := blk_frozen BK168.out 1
        have hfz96_2 := blk_frozen BK168.out 2
        have hfz96_3 := blk_frozen BK168.out 3
        have hfz96_4 := blk_frozen BK168.out 4
        go_wp2
        refine bodyPost_ret (results_ctt rfl _ _ gb168 33 #[.int .i64 0, .string (⟨#[]⟩ : ByteArray), .int .i64 0, .slice none 0 0, .int .i64 0] (0, 0) _ rfl (by (with_reducible repeat (first | refine blk_drewN ?_ _ | refine blk_drew ?_ | refine blk_alloc ?_ _)); refine blk_put (cs := #[.int .i64 0, .string (⟨#[]⟩ : ByteArray), .int .i64 0, .slice none 0 0, .int .i64 x169004_1]) ?_ 4 _ rfl; (with_reducible repeat (first | refine blk_drewN ?_ _ | refine blk_drew ?_ | refine blk_alloc ?_ _)); refine blk_put (cs := #[.int .i64 0, .string (⟨#[]⟩ : ByteArray), .int .i64 0, .slice none 0 0, .int .i64 x169004_1]) ?_ 3 _ rfl; (with_reducible repeat (first | refine blk_drewN ?_ _ | refine blk_drew ?_ | refine blk_alloc ?_ _)); refine blk_put (cs := #[.int .i64 0, .string (⟨#[]⟩ : ByteArray), .int .i64 x169002_1, .slice none 0 0, .int .i64 x169004_1]) ?_ 2 _ rfl; (with_reducible repeat (first | refine blk_drewN ?_ _ | refine blk_drew ?_ | refine blk_alloc ?_ _)); refine blk_put (cs := #[.int .i64 0, .string x169001_1, .int .i64 x169002_1, .slice none 0 0, .int .i64 x169004_1]) ?_ 1 _ rfl; (with_reducible repeat (first | refine blk_drewN ?_ _ | refine blk_drew ?_ | refine blk_alloc ?_ _)); refine blk_put (cs := #[.int .i64 x169000_1, .string x169001_1, .int .i64 x169002_1, .slice none 0 0, .int .i64 x169004_1]) ?_ 0 _ rfl; (with_reducible repeat (first | refine blk_drewN ?_ _ | refine blk_drew ?_ | refine blk_alloc ?_ _)); exact BK168.out) Tryd.underlying33 rfl (by kernel_rfl)) rfl ?_
        exact ⟨_, by first | rfl | (simp [errW_none, errW_some] <;> rfl) | (simp [*, errW_none, errW_some] <;> rfl), by first | exact Kd.R_nil _ _ _ _ _ | exact Kd.N_nil _ _ _ _ _ | exact Kd.V_nil _ _ _ _ _ | exact Kd.Q_nil _ _ _ _ _ | exact Kd.S_nil _ _ _ _ _, by repeat (first | (with_reducible first | exact HB.out | apply below_alloc | apply pw_below_drewN | apply below_drew1 | refine below_set ?_ GE168.out | refine below_set ?_ GE172.out) | exact HB.out)⟩

end Go.Proofs.YtgkbmdlelcbmhaaDoor.PLex
