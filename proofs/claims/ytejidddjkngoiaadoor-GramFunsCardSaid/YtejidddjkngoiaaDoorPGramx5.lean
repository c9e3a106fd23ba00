-- Written by a turned copy of the kit's printer (wip/patch_print.py), in this project; not trusted: Lean checks it.
import Derived.Test.YtejidddjkngoiaaDoorPGramx0
import Derived.Test.YtejidddjkngoiaaDoorPGramx3
namespace Go.Proofs.YtejidddjkngoiaaDoor.PGram
open Go.RowKit Go.Proofs.YtejidddjkngoiaaDoorW.PrintWords Go.Proofs.YtejidddjkngoiaaDoorW.PrintLast Go.Proofs.YtejidddjkngoiaaDoorW.PrintMore
attribute [local go_sem] max2_int min2_int max_two min_two max_three min_three max_four min_four   -- for this text's walks alone
set_option linter.unusedVariables false
set_option linter.unusedSimpArgs false

/-! ### rookeryref16_Same: function 9 -/
def rookeryref16_Same.l0 : Nat → List (S28) → List (S28) → Int → Option (Bool)
 | 0, _, _, _ => none
 | k + 1, x5, x6, x7 => if x7 < (x5.length : Int) then (if 0 ≤ x7 then (if x7 < (x6.length : Int) then (if ((rd_T28 x5 x7).f0) = ((rd_T28 x6 x7).f0) then (if ((rd_T28 x5 x7).f1).toList = ((rd_T28 x6 x7).f1).toList then (if ((rd_T28 x5 x7).f2) = ((rd_T28 x6 x7).f2) then (if (strOfNums ((rd_T28 x5 x7).f3)).toList = (strOfNums ((rd_T28 x6 x7).f3)).toList then (if (((rd_T28 x5 x7).f4).length : Int) = (((rd_T28 x6 x7).f4).length : Int) then (rookeryref16_Same.l0 k x5 x6 (wrap64 (x7 + 1))) else (some false)) else (some false)) else (some false)) else (some false)) else (some false)) else (none)) else (none)) else (some true)
def rookeryref16_Same.f (k : Nat) (a0_0 : Int) (a0_1 : ByteArray) (a0_2 : Int) (l0_3 : List Int) (l0_4 : List (S28)) (a1_0 : Int) (a1_1 : ByteArray) (a1_2 : Int) (l1_3 : List Int) (l1_4 : List (S28)) : Option (Bool) := (rookeryref16_All.f k a0_0 a0_1 a0_2 l0_3 l0_4 30000).bind fun t227 => ((rookeryref16_All.f k a1_0 a1_1 a1_2 l1_3 l1_4 30000).bind fun t230 => (if (t227.length : Int) = (t230.length : Int) then (rookeryref16_Same.l0 k t227 t230 0) else (some false)))
theorem rookeryref16_Same.mono_l : ∀ k, (∀ y0 y1 y2, LeO (rookeryref16_Same.l0 k y0 y1 y2) (rookeryref16_Same.l0 (k + 1) y0 y1 y2))
 | 0 => fun _ _ _ r h => by simp [rookeryref16_Same.l0] at h
 | k + 1 => by
  have ih0 := rookeryref16_Same.mono_l k
  ·
   intro y0 y1 y2
   unfold rookeryref16_Same.l0
   repeat' first
   | (with_reducible exact ih0 _ _ _)
   | (with_reducible exact rookeryref16_All.mono _ _ _ _ _ _ _)
   | (with_reducible exact LeO.refl _)
   | (with_reducible exact LeO.none _)
   | (with_reducible refine LeO.ite ?_ ?_)
   | (with_reducible refine LeO.bind ?_ (fun _ => ?_))
   | exact ih0 _ _ _
   | exact rookeryref16_All.mono _ _ _ _ _ _ _
   | exact LeO.none _
   | refine LeO.ite ?_ ?_
   | refine LeO.bind ?_ (fun _ => ?_)
theorem rookeryref16_Same.mono : ∀ a0 a1 a2 a3 a4 a5 a6 a7 a8 a9 k, LeO (rookeryref16_Same.f k a0 a1 a2 a3 a4 a5 a6 a7 a8 a9) (rookeryref16_Same.f (k + 1) a0 a1 a2 a3 a4 a5 a6 a7 a8 a9) := by
 intro a0 a1 a2 a3 a4 a5 a6 a7 a8 a9 k
 have ih0 := rookeryref16_Same.mono_l k
 unfold rookeryref16_Same.f
 repeat' first
   | (with_reducible exact ih0 _ _ _)
   | (with_reducible exact rookeryref16_All.mono _ _ _ _ _ _ _)
   | (with_reducible exact LeO.refl _)
   | (with_reducible exact LeO.none _)
   | (with_reducible refine LeO.ite ?_ ?_)
   | (with_reducible refine LeO.bind ?_ (fun _ => ?_))
   | exact ih0 _ _ _
   | exact rookeryref16_All.mono _ _ _ _ _ _ _
   | exact LeO.none _
   | refine LeO.ite ?_ ?_
   | refine LeO.bind ?_ (fun _ => ?_)
set_option maxHeartbeats 8000000 in
set_option maxRecDepth 100000 in
theorem rookeryref16_Same.calls (k : Nat) (a0_0 : Int) (a0_1 : ByteArray) (a0_2 : Int) (A0_3 : Option Addr) (c0_3 : Nat) (l0_3 : List Int) (A0_4 : Option Addr) (c0_4 : Nat) (l0_4 : List (S28)) (a1_0 : Int) (a1_1 : ByteArray) (a1_2 : Int) (A1_3 : Option Addr) (c1_3 : Nat) (l1_3 : List Int) (A1_4 : Option Addr) (c1_4 : Nat) (l1_4 : List (S28)) (r : Bool) (w : World) (hr0_3 : Kd.C (Kd.int .u8) w A0_3 l0_3.length l0_3) (hc0_3 : l0_3.length ≤ c0_3) (hr0_4 : Kd.C k28 w A0_4 l0_4.length l0_4) (hc0_4 : l0_4.length ≤ c0_4) (hr1_3 : Kd.C (Kd.int .u8) w A1_3 l1_3.length l1_3) (hc1_3 : l1_3.length ≤ c1_3) (hr1_4 : Kd.C k28 w A1_4 l1_4.length l1_4) (hc1_4 : l1_4.length ≤ c1_4) (h : rookeryref16_Same.f k a0_0 a0_1 a0_2 l0_3 l0_4 a1_0 a1_1 a1_2 l1_3 l1_4 = some r) :
  Calls Tryd.prog 9 #[.agg #[.int .i64 a0_0, .string a0_1, .int .i64 a0_2, .slice A0_3 l0_3.length c0_3, .slice A0_4 l0_4.length c0_4], .agg #[.int .i64 a1_0, .string a1_1, .int .i64 a1_2, .slice A1_3 l1_3.length c1_3, .slice A1_4 l1_4.length c1_4]] w fun e w' => e = .returned (.bool r) ∧ Below w.heap.size w w' := by
 have hu28 := Tryd.underlying28
 have HR0_3 := qM hr0_3
 have HC0_3 := qM hc0_3
 clear hr0_3 hc0_3
 have HR0_4 := qM hr0_4
 have HC0_4 := qM hc0_4
 clear hr0_4 hc0_4
 have HR1_3 := qM hr1_3
 have HC1_3 := qM hc1_3
 clear hr1_3 hc1_3
 have HR1_4 := qM hr1_4
 have HC1_4 := qM hc1_4
 clear hr1_4 hc1_4
 have HB := qM (Below.refl w.heap.size w)
 have H : ((rookeryref16_All.f k a0_0 a0_1 a0_2 l0_3 l0_4 30000).bind fun t227 => ((rookeryref16_All.f k a1_0 a1_1 a1_2 l1_3 l1_4 30000).bind fun t230 => (if (t227.length : Int) = (t230.length : Int) then (rookeryref16_Same.l0 k t227 t230 0) else (some false)))) = some r := h
 clear h
 replace H := Option.bind_eq_some_iff.mp H
 obtain ⟨t227, A30, H⟩ := H
 replace H : ((rookeryref16_All.f k a1_0 a1_1 a1_2 l1_3 l1_4 30000).bind fun t230 => (if (t227.length : Int) = (t230.length : Int) then (rookeryref16_Same.l0 k t227 t230 0) else (some false))) = some r := H
 have A3 := qM A30
 clear A30
 replace H := Option.bind_eq_some_iff.mp H
 obtain ⟨t230, A40, H⟩ := H
 replace H : (if (t227.length : Int) = (t230.length : Int) then (rookeryref16_Same.l0 k t227 t230 0) else (some false)) = some r := H
 have A4 := qM A40
 clear A40
 by_cases c5 : (t227.length : Int) = (t230.length : Int)
 ·
  rw [if_pos c5] at H
  have c5b0 : ((t227.length : Int) == (t230.length : Int)) = true := beq_iff_eq.mpr c5
  have c5b1 : ((t227.length : Int) != (t230.length : Int)) = false := bne_eq_false_iff_eq.mpr c5
  have c5b2 : (t227.length == t230.length) = true := by first | simpa using c5 | (simp at c5 ⊢; omega)
  clear c5
  have H' := qM H
  clear H
  go_enter Tryd.func9, Tryd.ntmps9
  go_wp2_with (first | ((with_reducible refine gate_dst (N := 2) rfl ?_); (try (refine gate_guard (by rfl) ?_; dsimp only)); refine box_event ?hg (N := 2) ?hd (cs := #[.int .i64 a0_0, .string a0_1, .int .i64 a0_2, .slice A0_3 l0_3.length c0_3, .slice A0_4 l0_4.length c0_4]) (t := 28) ?hr ?_; (case hd => rfl); (case hg => rfl); (case hr => first | (go_simp; done) | (go_simp; rfl)); intro gb225 hg w6 hbox hb; have n0_ := qM (below_step (qB HB.out) hb); have n1_ := qM (hbox); have n2_ := qM ((by rw [hg]; exact (below_size (qB HB.out)) : w.heap.size ≤ gb225)); have n3_ := qM ((by rw [hg]; exact (below_size (qB HB.out)) : w.heap.size ≤ gb225)); clear HB; have HB := n0_; have BK225 := n1_; have GW225 := n2_; have GE225 := n3_; clear n0_ n1_ n2_ n3_; clear hb hbox hg) | ((with_reducible refine gate_dst (N := 3) rfl ?_); (try (refine gate_guard (by rfl) ?_; dsimp only)); refine box_event ?hg (N := 3) ?hd (cs := #[.int .i64 a1_0, .string a1_1, .int .i64 a1_2, .slice A1_3 l1_3.length c1_3, .slice A1_4 l1_4.length c1_4]) (t := 28) ?hr ?_; (case hd => rfl); (case hg => rfl); (case hr => first | (go_simp; done) | (go_simp; rfl)); intro gb226 hg w7 hbox hb; have n0_ := qM (blk_below (g := gb225) (o := .cells #[.int .i64 a0_0, .string a0_1, .int .i64 a0_2, .slice A0_3 l0_3.length c0_3, .slice A0_4 l0_4.length c0_4] 28 (0, 0)) (qK BK225.out) hb); have n1_ := qM (below_step (by repeat (first | (with_reducible first | exact HB.out | apply below_alloc | apply pw_below_drewN | apply below_drew1 | refine below_set ?_ GE225.out) | exact HB.out)) hb); have n2_ := qM (hbox); have n3_ := qM ((by rw [hg]; exact (below_size (by repeat (first | (with_reducible first | exact HB.out | apply below_alloc | apply pw_below_drewN | apply below_drew1 | refine below_set ?_ GE225.out) | exact HB.out))) : w.heap.size ≤ gb226)); have n4_ := qM ((by rw [hg]; exact (below_size (by repeat (first | (with_reducible first | exact HB.out | apply below_alloc | apply pw_below_drewN | apply below_drew1 | refine below_set ?_ GE225.out) | exact HB.out))) : w.heap.size ≤ gb226)); have n5_ := qM ((by rw [hg]; exact Nat.ne_of_lt (blk_lt (g := gb225) (o := .cells #[.int .i64 a0_0, .string a0_1, .int .i64 a0_2, .slice A0_3 l0_3.length c0_3, .slice A0_4 l0_4.length c0_4] 28 (0, 0)) (qK BK225.out)) : gb225 ≠ gb226)); have n6_ := qM ((by rw [hg]; exact Nat.ne_of_gt (blk_lt (g := gb225) (o := .cells #[.int .i64 a0_0, .string a0_1, .int .i64 a0_2, .slice A0_3 l0_3.length c0_3, .slice A0_4 l0_4.length c0_4] 28 (0, 0)) (qK BK225.out)) : gb226 ≠ gb225)); clear BK225; clear HB; have BK225 := n0_; have HB := n1_; have BK226 := n2_; have GW226 := n3_; have GE226 := n4_; have NB225_226 := n5_; have NB226_225 := n6_; clear n0_ n1_ n2_ n3_ n4_ n5_ n6_; clear hb hbox hg; have hnb8 := NB225_226.out; have hnc8 := NB226_225.out; have hcz9_0 : w7.cell? ⟨gb225, 0, none⟩ = some (.int .i64 a0_0) := (blk_cell BK225.out 0).trans rfl; have hcz9_1 : w7.cell? ⟨gb225, 1, none⟩ = some (.string a0_1) := (blk_cell BK225.out 1).trans rfl; have hcz9_2 : w7.cell? ⟨gb225, 2, none⟩ = some (.int .i64 a0_2) := (blk_cell BK225.out 2).trans rfl; have hcz9_3 : w7.cell? ⟨gb225, 3, none⟩ = some (.slice A0_3 l0_3.length c0_3) := (blk_cell BK225.out 3).trans rfl; have hcz9_4 : w7.cell? ⟨gb225, 4, none⟩ = some (.slice A0_4 l0_4.length c0_4) := (blk_cell BK225.out 4).trans rfl; have hfz9_0 := blk_frozen BK225.out 0; have hfz9_1 := blk_frozen BK225.out 1; have hfz9_2 := blk_frozen BK225.out 2; have hfz9_3 := blk_frozen BK225.out 3; have hfz9_4 := blk_frozen BK225.out 4) | ((with_reducible refine gate_callee (f := 16) rfl ?_); refine goesL_ (some 11) rfl rfl Tryd.func16 (by kernel_rfl) rfl #[.agg #[.int .i64 a0_0, .string a0_1, .int .i64 a0_2, .slice A0_3 l0_3.length c0_3, .slice A0_4 l0_4.length c0_4], .int .i64 30000] rfl (by (try simp only [List.map_toArray, List.map_cons, List.map_nil]); first | done | rfl | (simp only [List.length_drop, List.length_take]; rfl)) ?_; (with_reducible refine (rookeryref16_All.calls k a0_0 a0_1 a0_2 (fun k_ => k_ < w.heap.size) _ _ l0_3 (fun k_ => k_ < w.heap.size) _ _ l0_4 30000 t227 _ ?side1 ?side2 A3.out).mono ?_); (case side1 => exact Kd.V_mk HC0_3.out (Kd.F_below (Kd.C_F (Kd.heap_int .u8) HR0_3.out) (by repeat (first | (with_reducible first | exact HB.out | apply below_alloc | apply pw_below_drewN | apply below_drew1 | refine below_set ?_ GE225.out | refine below_set ?_ GE226.out) | exact HB.out)))); (case side2 => exact Kd.V_mk HC0_4.out (Kd.F_below (Kd.C_F k28_heap HR0_4.out) (by repeat (first | (with_reducible first | exact HB.out | apply below_alloc | apply pw_below_drewN | apply below_drew1 | refine below_set ?_ GE225.out | refine below_set ?_ GE226.out) | exact HB.out)))); rintro e w10 ⟨v228, rfl, ho0, hb⟩; refine ⟨_, rfl, ?_⟩; have n0_ := qM (Kd.N_lower (Kd.N_mono (ok' := fun k_ => k_ ≠ gb225 ∧ k_ ≠ gb226) ho0 (fun k_ hk_ => ⟨Or.elim hk_ (fun hs_ => Or.elim hs_ (fun hs_ => fun e_ => Nat.not_le.2 hs_ (by rw [e_]; exact GW225.out)) (fun hs_ => fun e_ => Nat.not_le.2 hs_ (by rw [e_]; exact GW225.out))) (fun hn_ => (Kd.freshB (g := gb225) (o := .cells #[.int .i64 a0_0, .string a0_1, .int .i64 a0_2, .slice A0_3 l0_3.length c0_3, .slice A0_4 l0_4.length c0_4] 28 (0, 0)) (qK BK225.out) k_ hn_)), Or.elim hk_ (fun hs_ => Or.elim hs_ (fun hs_ => fun e_ => Nat.not_le.2 hs_ (by rw [e_]; exact GW226.out)) (fun hs_ => fun e_ => Nat.not_le.2 hs_ (by rw [e_]; exact GW226.out))) (fun hn_ => (Kd.freshB (g := gb226) (o := .cells #[.int .i64 a1_0, .string a1_1, .int .i64 a1_2, .slice A1_3 l1_3.length c1_3, .slice A1_4 l1_4.length c1_4] 28 (0, 0)) (qK BK226.out) k_ hn_))⟩)) (below_size (by repeat (first | (with_reducible first | exact HB.out | apply below_alloc | apply pw_below_drewN | apply below_drew1 | refine below_set ?_ GE225.out | refine below_set ?_ GE226.out) | exact HB.out)))); have n1_ := qM (blk_below (g := gb225) (o := .cells #[.int .i64 a0_0, .string a0_1, .int .i64 a0_2, .slice A0_3 l0_3.length c0_3, .slice A0_4 l0_4.length c0_4] 28 (0, 0)) (qK BK225.out) hb); have n2_ := qM (blk_below (g := gb226) (o := .cells #[.int .i64 a1_0, .string a1_1, .int .i64 a1_2, .slice A1_3 l1_3.length c1_3, .slice A1_4 l1_4.length c1_4] 28 (0, 0)) (qK BK226.out) hb); have n3_ := qM (below_step (by repeat (first | (with_reducible first | exact HB.out | apply below_alloc | apply pw_below_drewN | apply below_drew1 | refine below_set ?_ GE225.out | refine below_set ?_ GE226.out) | exact HB.out)) hb); clear BK225; clear BK226; clear HB; have HO229 := n0_; have BK225 := n1_; have BK226 := n2_; have HB := n3_; clear n0_ n1_ n2_ n3_; (try clear hb); (try clear hb2); (try clear hk); (try clear hi); (try clear ho0); have hcz11_0 : w10.cell? ⟨gb226, 0, none⟩ = some (.int .i64 a1_0) := (blk_cell BK226.out 0).trans rfl; have hcz11_1 : w10.cell? ⟨gb226, 1, none⟩ = some (.string a1_1) := (blk_cell BK226.out 1).trans rfl; have hcz11_2 : w10.cell? ⟨gb226, 2, none⟩ = some (.int .i64 a1_2) := (blk_cell BK226.out 2).trans rfl; have hcz11_3 : w10.cell? ⟨gb226, 3, none⟩ = some (.slice A1_3 l1_3.length c1_3) := (blk_cell BK226.out 3).trans rfl; have hcz11_4 : w10.cell? ⟨gb226, 4, none⟩ = some (.slice A1_4 l1_4.length c1_4) := (blk_cell BK226.out 4).trans rfl; have hfz11_0 := blk_frozen BK226.out 0; have hfz11_1 := blk_frozen BK226.out 1; have hfz11_2 := blk_frozen BK226.out 2; have hfz11_3 := blk_frozen BK226.out 3; have hfz11_4 := blk_frozen BK226.out 4) | ((with_reducible refine gate_callee (f := 16) rfl ?_); refine goesL_ (some 13) rfl rfl Tryd.func16 (by kernel_rfl) rfl #[.agg #[.int .i64 a1_0, .string a1_1, .int .i64 a1_2, .slice A1_3 l1_3.length c1_3, .slice A1_4 l1_4.length c1_4], .int .i64 30000] rfl (by (try simp only [List.map_toArray, List.map_cons, List.map_nil]); first | done | rfl | (simp only [List.length_drop, List.length_take]; rfl)) ?_; (with_reducible refine (rookeryref16_All.calls k a1_0 a1_1 a1_2 (fun k_ => k_ < w.heap.size) _ _ l1_3 (fun k_ => k_ < w.heap.size) _ _ l1_4 30000 t230 _ ?side1 ?side2 A4.out).mono ?_); (case side1 => exact Kd.V_mk HC1_3.out (Kd.F_below (Kd.C_F (Kd.heap_int .u8) HR1_3.out) (by repeat (first | (with_reducible first | exact HB.out | apply below_alloc | apply pw_below_drewN | apply below_drew1 | refine below_set ?_ GE225.out | refine below_set ?_ GE226.out) | exact HB.out)))); (case side2 => exact Kd.V_mk HC1_4.out (Kd.F_below (Kd.C_F k28_heap HR1_4.out) (by repeat (first | (with_reducible first | exact HB.out | apply below_alloc | apply pw_below_drewN | apply below_drew1 | refine below_set ?_ GE225.out | refine below_set ?_ GE226.out) | exact HB.out)))); rintro e w12 ⟨v231, rfl, ho0, hb⟩; refine ⟨_, rfl, ?_⟩; have n0_ := qM (Kd.N_elder' (qN HO229.out) (Kd.N_base ho0) hb); have n1_ := qM (Kd.N_lower (Kd.N_mono (ok' := fun k_ => some k_ ≠ (v228 : Value).ownBlock ∧ k_ ≠ gb225 ∧ k_ ≠ gb226) ho0 (fun k_ hk_ => ⟨Or.elim hk_ (fun hs_ => Or.elim hs_ (fun hs_ => fun e_ => Nat.not_le.2 hs_ (Kd.N_base HO229.out k_ e_.symm)) (fun hs_ => fun e_ => Nat.not_le.2 hs_ (Kd.N_base HO229.out k_ e_.symm))) (fun hn_ => (Kd.fresh' (Kd.N_lt (qN HO229.out)) k_ hn_)), Or.elim hk_ (fun hs_ => Or.elim hs_ (fun hs_ => fun e_ => Nat.not_le.2 hs_ (by rw [e_]; exact GW225.out)) (fun hs_ => fun e_ => Nat.not_le.2 hs_ (by rw [e_]; exact GW225.out))) (fun hn_ => (Kd.freshB (g := gb225) (o := .cells #[.int .i64 a0_0, .string a0_1, .int .i64 a0_2, .slice A0_3 l0_3.length c0_3, .slice A0_4 l0_4.length c0_4] 28 (0, 0)) (qK BK225.out) k_ hn_)), Or.elim hk_ (fun hs_ => Or.elim hs_ (fun hs_ => fun e_ => Nat.not_le.2 hs_ (by rw [e_]; exact GW226.out)) (fun hs_ => fun e_ => Nat.not_le.2 hs_ (by rw [e_]; exact GW226.out))) (fun hn_ => (Kd.freshB (g := gb226) (o := .cells #[.int .i64 a1_0, .string a1_1, .int .i64 a1_2, .slice A1_3 l1_3.length c1_3, .slice A1_4 l1_4.length c1_4] 28 (0, 0)) (qK BK226.out) k_ hn_))⟩)) (below_size (by repeat (first | (with_reducible first | exact HB.out | apply below_alloc | apply pw_below_drewN | apply below_drew1 | refine below_set ?_ GE225.out | refine below_set ?_ GE226.out) | exact HB.out)))); have n2_ := qM (blk_below (g := gb225) (o := .cells #[.int .i64 a0_0, .string a0_1, .int .i64 a0_2, .slice A0_3 l0_3.length c0_3, .slice A0_4 l0_4.length c0_4] 28 (0, 0)) (qK BK225.out) hb); have n3_ := qM (blk_below (g := gb226) (o := .cells #[.int .i64 a1_0, .string a1_1, .int .i64 a1_2, .slice A1_3 l1_3.length c1_3, .slice A1_4 l1_4.length c1_4] 28 (0, 0)) (qK BK226.out) hb); have n4_ := qM (below_step (by repeat (first | (with_reducible first | exact HB.out | apply below_alloc | apply pw_below_drewN | apply below_drew1 | refine below_set ?_ GE225.out | refine below_set ?_ GE226.out) | exact HB.out)) hb); clear HO229; clear BK225; clear BK226; clear HB; have HO229 := n0_; have HO232 := n1_; have BK225 := n2_; have BK226 := n3_; have HB := n4_; clear n0_ n1_ n2_ n3_ n4_; (try clear hb); (try clear hb2); (try clear hk); (try clear hi); (try clear ho0); obtain ⟨Ao13, co13, eo13⟩ := Kd.N_slice HO229.out; subst eo13; obtain ⟨Ao14, co14, eo14⟩ := Kd.N_slice HO232.out; subst eo14))
  have C5 := (Kd.N_reads' HO229.out).2.2
  have C6 := (Kd.N_reads' HO232.out).2.2
  clear HO229 HO232 BK225 BK226
  go_loopg [7] k (fun kq v7 w' => ∃ (x7_1 : Int), v7 = .int .i64 x7_1 ∧ Aside0 (rookeryref16_Same.l0 kq t227 t230 x7_1 = some r) ∧ Aside0 (kq ≤ k) ∧ Aside0 (Kd.C k28 w' Ao13 t227.length t227) ∧ Aside0 (Kd.C k28 w' Ao14 t230.length t230) ∧ Aside0 (Below w.heap.size w w'))
  case atStart => exact ⟨0, rfl, H', ⟨Nat.le_refl _⟩, ⟨C5⟩, ⟨C6⟩, ⟨qB HB.out⟩⟩
  case round =>
   clear H' C5 C6
   obtain ⟨x7_1, rfl, HA, HK1, C5, C6, HB⟩ := hrel
   cases gk with
   | zero => exact absurd HA.out (by simp [rookeryref16_Same.l0])
   | succ k1 =>
    have H := HA.out
    clear HA
    simp only [rookeryref16_Same.l0] at H
    by_cases c15 : x7_1 < (t227.length : Int)
    · rw [if_pos c15] at H
      have c15b0 : decide (x7_1 < (t227.length : Int)) = true := decide_eq_true c15
      by_cases c16 : 0 ≤ x7_1
      · rw [if_pos c16] at H
        have c16b0 : decide (0 ≤ x7_1) = true := decide_eq_true c16
        by_cases c17 : x7_1 < (t230.length : Int)
        · rw [if_pos c17] at H
          have c17b0 : decide (x7_1 < (t230.length : Int)) = true := decide_eq_true c17
          have H' := qM H
          clear H
          try clear c5b0; try clear c5b1; try clear c5b2; try clear hcz11_0; try clear hcz11_1; try clear hcz11_2; try clear hcz11_3; try clear hcz11_4; try clear hcz9_0; try clear hcz9_1; try clear hcz9_2; try clear hcz9_3; try clear hcz9_4; try clear hfz11_0; try clear hfz11_1; try clear hfz11_2; try clear hfz11_3; try clear hfz11_4; try clear hfz9_0; try clear hfz9_1; try clear hfz9_2; try clear hfz9_3; try clear hfz9_4
          have p233 := eq_true c16
          have q233 := eq_true c15
          have q234 := eq_true c17
          obtain ⟨ad1, B3, d3, B4, d4, e1, hx0, hx1, hx2, hx3, hx4, hl3, hi3, hl4, hi4⟩ := at_T28 C5.out x7_1 c16 c15
          cases e1
          obtain ⟨ad2, E3, m3, E4, m4, e2, hy0, hy1, hy2, hy3, hy4, hm3, hj3, hm4, hj4⟩ := at_T28 C6.out x7_1 c16 c17
          cases e2
          have D3 := qM hi3
          have D4 := qM hj3
          clear hi3 hi4 hj3 hj4 hl3 hl4 hm3 hm4
          go_upto_region 9 with fail
          obtain ⟨x2, ex2⟩ : ∃ x2, x2 = wr.alloc (.cells #[.int .i64 (rd_T28 t227 x7_1).f0, .string (rd_T28 t227 x7_1).f1, .int .i64 (rd_T28 t227 x7_1).f2, .slice B3 (rd_T28 t227 x7_1).f3.length d3, .slice B4 (rd_T28 t227 x7_1).f4.length d4] 28) := ⟨_, rfl⟩
          rw [← ex2]
          have b2 : Below wr.heap.size wr x2 := by rw [ex2]; exact below_alloc (Below.refl _ _) _
          have P2 : x2.heap[wr.heap.size]? = some (.cells #[.int .i64 (rd_T28 t227 x7_1).f0, .string (rd_T28 t227 x7_1).f1, .int .i64 (rd_T28 t227 x7_1).f2, .slice B3 (rd_T28 t227 x7_1).f3.length d3, .slice B4 (rd_T28 t227 x7_1).f4.length d4] 28) := by rw [ex2]; exact heap_alloc_new wr _
          have z2 : x2.heap.size = wr.heap.size + 1 := by rw [ex2]; simp
          have mv : ∀ a v, wr.cell? a = some v → x2.cell? a = some v := fun a v h => (World.cell?_of_block (b2.block _ (World.block_lt_of_cell? _ _ h))).trans h
          have hy0 := mv _ _ hy0
          have hy1 := mv _ _ hy1
          have hy2 := mv _ _ hy2
          have hy3 := mv _ _ hy3
          have hy4 := mv _ _ hy4
          clear mv ex2 hx0 hx1 hx2 hx3 hx4
          have Z2 := qM z2
          clear z2
          go_upto_region 10 with fail
          obtain ⟨x3, ex3⟩ : ∃ x3, x3 = x2.alloc (.cells #[.int .i64 (rd_T28 t230 x7_1).f0, .string (rd_T28 t230 x7_1).f1, .int .i64 (rd_T28 t230 x7_1).f2, .slice E3 (rd_T28 t230 x7_1).f3.length m3, .slice E4 (rd_T28 t230 x7_1).f4.length m4] 28) := ⟨_, rfl⟩
          rw [← ex3]
          have b3 : Below x2.heap.size x2 x3 := by rw [ex3]; exact below_alloc (Below.refl _ _) _
          have Q3 : x3.heap[x2.heap.size]? = some (.cells #[.int .i64 (rd_T28 t230 x7_1).f0, .string (rd_T28 t230 x7_1).f1, .int .i64 (rd_T28 t230 x7_1).f2, .slice E3 (rd_T28 t230 x7_1).f3.length m3, .slice E4 (rd_T28 t230 x7_1).f4.length m4] 28) := by rw [ex3]; exact heap_alloc_new x2 _
          have P3 := (b3.block _ (Array.getElem?_eq_some_iff.1 P2).1).trans P2
          have nb := b2.size
          have B3' := qM (b2.trans (b3.mono (by have := Z2.out; omega)))
          have hp0 : x3.cell? ⟨wr.heap.size, 0, none⟩ = some (.int .i64 (rd_T28 t227 x7_1).f0) := (blk_cell P3 0).trans rfl
          have hp1 : x3.cell? ⟨wr.heap.size, 1, none⟩ = some (.string (rd_T28 t227 x7_1).f1) := (blk_cell P3 1).trans rfl
          have hp2 : x3.cell? ⟨wr.heap.size, 2, none⟩ = some (.int .i64 (rd_T28 t227 x7_1).f2) := (blk_cell P3 2).trans rfl
          have hp3 : x3.cell? ⟨wr.heap.size, 3, none⟩ = some (.slice B3 (rd_T28 t227 x7_1).f3.length d3) := (blk_cell P3 3).trans rfl
          have hp4 : x3.cell? ⟨wr.heap.size, 4, none⟩ = some (.slice B4 (rd_T28 t227 x7_1).f4.length d4) := (blk_cell P3 4).trans rfl
          have hq0 : x3.cell? ⟨x2.heap.size, 0, none⟩ = some (.int .i64 (rd_T28 t230 x7_1).f0) := (blk_cell Q3 0).trans rfl
          have hq1 : x3.cell? ⟨x2.heap.size, 1, none⟩ = some (.string (rd_T28 t230 x7_1).f1) := (blk_cell Q3 1).trans rfl
          have hq2 : x3.cell? ⟨x2.heap.size, 2, none⟩ = some (.int .i64 (rd_T28 t230 x7_1).f2) := (blk_cell Q3 2).trans rfl
          have hq3 : x3.cell? ⟨x2.heap.size, 3, none⟩ = some (.slice E3 (rd_T28 t230 x7_1).f3.length m3) := (blk_cell Q3 3).trans rfl
          have hq4 : x3.cell? ⟨x2.heap.size, 4, none⟩ = some (.slice E4 (rd_T28 t230 x7_1).f4.length m4) := (blk_cell Q3 4).trans rfl
          have K5 := qM (Kd.C_below C5.out B3'.out)
          have K6 := qM (Kd.C_below C6.out B3'.out)
          have KB := qM (below_step HB.out B3'.out)
          have hcA := fun a_ => Kd.C_string (P := Tryd.prog) (A := B3) (c := d3) Tryd.underlying25 Tryd.underlying5 Tryd.underlying9 (Kd.C_drewN (Kd.C_below D3.out B3'.out) a_)
          have hcB := fun a_ => Kd.C_string (P := Tryd.prog) (A := E3) (c := m3) Tryd.underlying25 Tryd.underlying5 Tryd.underlying9 (Kd.C_drewN (Kd.C_below D4.out B3'.out) a_)
          have hcA0 := Kd.C_string (P := Tryd.prog) (A := B3) (c := d3) Tryd.underlying25 Tryd.underlying5 Tryd.underlying9 (Kd.C_below D3.out B3'.out)
          have hcB0 := Kd.C_string (P := Tryd.prog) (A := E3) (c := m3) Tryd.underlying25 Tryd.underlying5 Tryd.underlying9 (Kd.C_below D4.out B3'.out)
          clear P2 P3 Q3 b2 b3 hy0 hy1 hy2 hy3 hy4 ex3 nb D3 D4 C5 C6 HB
          have Hn := qM p233
          have Hm := qM q233
          clear p233 q233 q234 c15 c16 c17 c15b0 c16b0 c17b0
          have H := H'.out
          clear H'
          generalize rd_T28 t227 x7_1 = u at *
          generalize rd_T28 t230 x7_1 = v at *
          by_cases e0 : u.f0 = v.f0
          · rw [if_pos e0] at H
            have e0a : (u.f0 == v.f0) = true := beq_iff_eq.mpr e0
            have e0b : (u.f0 != v.f0) = false := bne_eq_false_iff_eq.mpr e0
            clear e0
            by_cases e1 : u.f1.toList = v.f1.toList
            · rw [if_pos e1] at H
              have e1a : (u.f1.toList == v.f1.toList) = true := beq_iff_eq.mpr e1
              have e1b : (u.f1.toList != v.f1.toList) = false := bne_eq_false_iff_eq.mpr e1
              clear e1
              by_cases e2 : u.f2 = v.f2
              · rw [if_pos e2] at H
                have e2a : (u.f2 == v.f2) = true := beq_iff_eq.mpr e2
                have e2b : (u.f2 != v.f2) = false := bne_eq_false_iff_eq.mpr e2
                clear e2
                by_cases e3 : (strOfNums u.f3).toList = (strOfNums v.f3).toList
                · rw [if_pos e3] at H
                  have e3a : ((strOfNums u.f3).toList == (strOfNums v.f3).toList) = true := beq_iff_eq.mpr e3
                  have e3b : ((strOfNums u.f3).toList != (strOfNums v.f3).toList) = false := bne_eq_false_iff_eq.mpr e3
                  clear e3
                  by_cases e4 : (u.f4.length : Int) = (v.f4.length : Int)
                  · rw [if_pos e4] at H
                    have e4a : ((u.f4.length : Int) == (v.f4.length : Int)) = true := beq_iff_eq.mpr e4
                    have e4b : ((u.f4.length : Int) != (v.f4.length : Int)) = false := bne_eq_false_iff_eq.mpr e4
                    have e4c : (u.f4.length == v.f4.length) = true := by first | simpa using e4 | (simp at e4 ⊢; omega)
                    clear e4
                    have H' := qM H
                    clear H
                    have p233 := Hn.out
                    have q233 := Hm.out
                    go_wp2
                    repeat (go_quiet (fail); try go_wp2)
                    go_roundg k1
                    case measure => have := HK1.out; omega
                    case rel => exact ⟨wrap64 (x7_1 + 1), rfl, H', ⟨by have := HK1.out; omega⟩, ⟨by first | exact K5.out | exact Kd.C_drewN K5.out _⟩, ⟨by first | exact K6.out | exact Kd.C_drewN K6.out _⟩, ⟨qB KB.out⟩⟩
                  · rw [if_neg e4] at H
                    have e4a : ((u.f4.length : Int) == (v.f4.length : Int)) = false := beq_eq_false_iff_ne.mpr e4
                    have e4b : ((u.f4.length : Int) != (v.f4.length : Int)) = true := bne_iff_ne.mpr e4
                    have e4c : (u.f4.length == v.f4.length) = false := by rw [beq_eq_false_iff_ne]; omega
                    clear e4
                    cases H
                    go_wp2
                    repeat (go_quiet (fail); try go_wp2)
                    go_ret
                    exact ⟨rfl, qB KB.out⟩
                · rw [if_neg e3] at H
                  have e3a : ((strOfNums u.f3).toList == (strOfNums v.f3).toList) = false := beq_eq_false_iff_ne.mpr e3
                  have e3b : ((strOfNums u.f3).toList != (strOfNums v.f3).toList) = true := bne_iff_ne.mpr e3
                  clear e3
                  cases H
                  go_wp2
                  repeat (go_quiet (fail); try go_wp2)
                  go_ret
                  exact ⟨rfl, qB KB.out⟩
              · rw [if_neg e2] at H
                have e2a : (u.f2 == v.f2) = false := beq_eq_false_iff_ne.mpr e2
                have e2b : (u.f2 != v.f2) = true := bne_iff_ne.mpr e2
                clear e2
                cases H
                go_wp2
                repeat (go_quiet (fail); try go_wp2)
                go_ret
                exact ⟨rfl, qB KB.out⟩
            · rw [if_neg e1] at H
              have e1a : (u.f1.toList == v.f1.toList) = false := beq_eq_false_iff_ne.mpr e1
              have e1b : (u.f1.toList != v.f1.toList) = true := bne_iff_ne.mpr e1
              clear e1
              cases H
              go_wp2
              repeat (go_quiet (fail); try go_wp2)
              go_ret
              exact ⟨rfl, qB KB.out⟩
          · rw [if_neg e0] at H
            have e0a : (u.f0 == v.f0) = false := beq_eq_false_iff_ne.mpr e0
            have e0b : (u.f0 != v.f0) = true := bne_iff_ne.mpr e0
            clear e0
            cases H
            go_wp2
            repeat (go_quiet (fail); try go_wp2)
            go_ret
            exact ⟨rfl, qB KB.out⟩
        · rw [if_neg c17] at H
          cases H
      · rw [if_neg c16] at H
        cases H
    · rw [if_neg c15] at H
      have c15b0 : decide (x7_1 < (t227.length : Int)) = false := decide_eq_false c15
      clear c15
      obtain rfl := qI H
      go_wp2
      go_ret
      exact ⟨rfl, qB HB.out⟩
 ·
  rw [if_neg c5] at H
  have c5b0 : ((t227.length : Int) == (t230.length : Int)) = false := beq_eq_false_iff_ne.mpr c5
  have c5b1 : ((t227.length : Int) != (t230.length : Int)) = true := bne_iff_ne.mpr c5
  have c5b2 : (t227.length == t230.length) = false := by first | simpa using c5 | (simp at c5 ⊢; omega)
  obtain rfl := qI H
  go_enter Tryd.func9, Tryd.ntmps9
  go_wp2_with (first | ((with_reducible refine gate_dst (N := 2) rfl ?_); (try (refine gate_guard (by rfl) ?_; dsimp only)); refine box_event ?hg (N := 2) ?hd (cs := #[.int .i64 a0_0, .string a0_1, .int .i64 a0_2, .slice A0_3 l0_3.length c0_3, .slice A0_4 l0_4.length c0_4]) (t := 28) ?hr ?_; (case hd => rfl); (case hg => rfl); (case hr => first | (go_simp; done) | (go_simp; rfl)); intro gb225 hg w95 hbox hb; have n0_ := qM (below_step (qB HB.out) hb); have n1_ := qM (hbox); have n2_ := qM ((by rw [hg]; exact (below_size (qB HB.out)) : w.heap.size ≤ gb225)); have n3_ := qM ((by rw [hg]; exact (below_size (qB HB.out)) : w.heap.size ≤ gb225)); clear HB; have HB := n0_; have BK225 := n1_; have GW225 := n2_; have GE225 := n3_; clear n0_ n1_ n2_ n3_; clear hb hbox hg) | ((with_reducible refine gate_dst (N := 3) rfl ?_); (try (refine gate_guard (by rfl) ?_; dsimp only)); refine box_event ?hg (N := 3) ?hd (cs := #[.int .i64 a1_0, .string a1_1, .int .i64 a1_2, .slice A1_3 l1_3.length c1_3, .slice A1_4 l1_4.length c1_4]) (t := 28) ?hr ?_; (case hd => rfl); (case hg => rfl); (case hr => first | (go_simp; done) | (go_simp; rfl)); intro gb226 hg w96 hbox hb; have n0_ := qM (blk_below (g := gb225) (o := .cells #[.int .i64 a0_0, .string a0_1, .int .i64 a0_2, .slice A0_3 l0_3.length c0_3, .slice A0_4 l0_4.length c0_4] 28 (0, 0)) (qK BK225.out) hb); have n1_ := qM (below_step (by repeat (first | (with_reducible first | exact HB.out | apply below_alloc | apply pw_below_drewN | apply below_drew1 | refine below_set ?_ GE225.out) | exact HB.out)) hb); have n2_ := qM (hbox); have n3_ := qM ((by rw [hg]; exact (below_size (by repeat (first | (with_reducible first | exact HB.out | apply below_alloc | apply pw_below_drewN | apply below_drew1 | refine below_set ?_ GE225.out) | exact HB.out))) : w.heap.size ≤ gb226)); have n4_ := qM ((by rw [hg]; exact (below_size (by repeat (first | (with_reducible first | exact HB.out | apply below_alloc | apply pw_below_drewN | apply below_drew1 | refine below_set ?_ GE225.out) | exact HB.out))) : w.heap.size ≤ gb226)); have n5_ := qM ((by rw [hg]; exact Nat.ne_of_lt (blk_lt (g := gb225) (o := .cells #[.int .i64 a0_0, .string a0_1, .int .i64 a0_2, .slice A0_3 l0_3.length c0_3, .slice A0_4 l0_4.length c0_4] 28 (0, 0)) (qK BK225.out)) : gb225 ≠ gb226)); have n6_ := qM ((by rw [hg]; exact Nat.ne_of_gt (blk_lt (g := gb225) (o := .cells #[.int .i64 a0_0, .string a0_1, .int .i64 a0_2, .slice A0_3 l0_3.length c0_3, .slice A0_4 l0_4.length c0_4] 28 (0, 0)) (qK BK225.out)) : gb226 ≠ gb225)); clear BK225; clear HB; have BK225 := n0_; have HB := n1_; have BK226 := n2_; have GW226 := n3_; have GE226 := n4_; have NB225_226 := n5_; have NB226_225 := n6_; clear n0_ n1_ n2_ n3_ n4_ n5_ n6_; clear hb hbox hg; have hnb97 := NB225_226.out; have hnc97 := NB226_225.out; have hcz98_0 : w96.cell? ⟨gb225, 0, none⟩ = some (.int .i64 a0_0) := (blk_cell BK225.out 0).trans rfl; have hcz98_1 : w96.cell? ⟨gb225, 1, none⟩ = some (.string a0_1) := (blk_cell BK225.out 1).trans rfl; have hcz98_2 : w96.cell? ⟨gb225, 2, none⟩ = some (.int .i64 a0_2) := (blk_cell BK225.out 2).trans rfl; have hcz98_3 : w96.cell? ⟨gb225, 3, none⟩ = some (.slice A0_3 l0_3.length c0_3) := (blk_cell BK225.out 3).trans rfl; have hcz98_4 : w96.cell? ⟨gb225, 4, none⟩ = some (.slice A0_4 l0_4.length c0_4) := (blk_cell BK225.out 4).trans rfl; have hfz98_0 := blk_frozen BK225.out 0; have hfz98_1 := blk_frozen BK225.out 1; have hfz98_2 := blk_frozen BK225.out 2; have hfz98_3 := blk_frozen BK225.out 3; have hfz98_4 := blk_frozen BK225.out 4) | ((with_reducible refine gate_callee (f := 16) rfl ?_); refine goesL_ (some 11) rfl rfl Tryd.func16 (by kernel_rfl) rfl #[.agg #[.int .i64 a0_0, .string a0_1, .int .i64 a0_2, .slice A0_3 l0_3.length c0_3, .slice A0_4 l0_4.length c0_4], .int .i64 30000] rfl (by (try simp only [List.map_toArray, List.map_cons, List.map_nil]); first | done | rfl | (simp only [List.length_drop, List.length_take]; rfl)) ?_; (with_reducible refine (rookeryref16_All.calls k a0_0 a0_1 a0_2 (fun k_ => k_ < w.heap.size) _ _ l0_3 (fun k_ => k_ < w.heap.size) _ _ l0_4 30000 t227 _ ?side1 ?side2 A3.out).mono ?_); (case side1 => exact Kd.V_mk HC0_3.out (Kd.F_below (Kd.C_F (Kd.heap_int .u8) HR0_3.out) (by repeat (first | (with_reducible first | exact HB.out | apply below_alloc | apply pw_below_drewN | apply below_drew1 | refine below_set ?_ GE225.out | refine below_set ?_ GE226.out) | exact HB.out)))); (case side2 => exact Kd.V_mk HC0_4.out (Kd.F_below (Kd.C_F k28_heap HR0_4.out) (by repeat (first | (with_reducible first | exact HB.out | apply below_alloc | apply pw_below_drewN | apply below_drew1 | refine below_set ?_ GE225.out | refine below_set ?_ GE226.out) | exact HB.out)))); rintro e w99 ⟨v228, rfl, ho0, hb⟩; refine ⟨_, rfl, ?_⟩; have n0_ := qM (Kd.N_lower (Kd.N_mono (ok' := fun k_ => k_ ≠ gb225 ∧ k_ ≠ gb226) ho0 (fun k_ hk_ => ⟨Or.elim hk_ (fun hs_ => Or.elim hs_ (fun hs_ => fun e_ => Nat.not_le.2 hs_ (by rw [e_]; exact GW225.out)) (fun hs_ => fun e_ => Nat.not_le.2 hs_ (by rw [e_]; exact GW225.out))) (fun hn_ => (Kd.freshB (g := gb225) (o := .cells #[.int .i64 a0_0, .string a0_1, .int .i64 a0_2, .slice A0_3 l0_3.length c0_3, .slice A0_4 l0_4.length c0_4] 28 (0, 0)) (qK BK225.out) k_ hn_)), Or.elim hk_ (fun hs_ => Or.elim hs_ (fun hs_ => fun e_ => Nat.not_le.2 hs_ (by rw [e_]; exact GW226.out)) (fun hs_ => fun e_ => Nat.not_le.2 hs_ (by rw [e_]; exact GW226.out))) (fun hn_ => (Kd.freshB (g := gb226) (o := .cells #[.int .i64 a1_0, .string a1_1, .int .i64 a1_2, .slice A1_3 l1_3.length c1_3, .slice A1_4 l1_4.length c1_4] 28 (0, 0)) (qK BK226.out) k_ hn_))⟩)) (below_size (by repeat (first | (with_reducible first | exact HB.out | apply below_alloc | apply pw_below_drewN | apply below_drew1 | refine below_set ?_ GE225.out | refine below_set ?_ GE226.out) | exact HB.out)))); have n1_ := qM (blk_below (g := gb225) (o := .cells #[.int .i64 a0_0, .string a0_1, .int .i64 a0_2, .slice A0_3 l0_3.length c0_3, .slice A0_4 l0_4.length c0_4] 28 (0, 0)) (qK BK225.out) hb); have n2_ := qM (blk_below (g := gb226) (o := .cells #[.int .i64 a1_0, .string a1_1, .int .i64 a1_2, .slice A1_3 l1_3.length c1_3, .slice A1_4 l1_4.length c1_4] 28 (0, 0)) (qK BK226.out) hb); have n3_ := qM (below_step (by repeat (first | (with_reducible first | exact HB.out | apply below_alloc | apply pw_below_drewN | apply below_drew1 | refine below_set ?_ GE225.out | refine below_set ?_ GE226.out) | exact HB.out)) hb); clear BK225; clear BK226; clear HB; have HO229 := n0_; have BK225 := n1_; have BK226 := n2_; have HB := n3_; clear n0_ n1_ n2_ n3_; (try clear hb); (try clear hb2); (try clear hk); (try clear hi); (try clear ho0); have hcz100_0 : w99.cell? ⟨gb226, 0, none⟩ = some (.int .i64 a1_0) := (blk_cell BK226.out 0).trans rfl; have hcz100_1 : w99.cell? ⟨gb226, 1, none⟩ = some (.string a1_1) := (blk_cell BK226.out 1).trans rfl; have hcz100_2 : w99.cell? ⟨gb226, 2, none⟩ = some (.int .i64 a1_2) := (blk_cell BK226.out 2).trans rfl; have hcz100_3 : w99.cell? ⟨gb226, 3, none⟩ = some (.slice A1_3 l1_3.length c1_3) := (blk_cell BK226.out 3).trans rfl; have hcz100_4 : w99.cell? ⟨gb226, 4, none⟩ = some (.slice A1_4 l1_4.length c1_4) := (blk_cell BK226.out 4).trans rfl; have hfz100_0 := blk_frozen BK226.out 0; have hfz100_1 := blk_frozen BK226.out 1; have hfz100_2 := blk_frozen BK226.out 2; have hfz100_3 := blk_frozen BK226.out 3; have hfz100_4 := blk_frozen BK226.out 4) | ((with_reducible refine gate_callee (f := 16) rfl ?_); refine goesL_ (some 13) rfl rfl Tryd.func16 (by kernel_rfl) rfl #[.agg #[.int .i64 a1_0, .string a1_1, .int .i64 a1_2, .slice A1_3 l1_3.length c1_3, .slice A1_4 l1_4.length c1_4], .int .i64 30000] rfl (by (try simp only [List.map_toArray, List.map_cons, List.map_nil]); first | done | rfl | (simp only [List.length_drop, List.length_take]; rfl)) ?_; (with_reducible refine (rookeryref16_All.calls k a1_0 a1_1 a1_2 (fun k_ => k_ < w.heap.size) _ _ l1_3 (fun k_ => k_ < w.heap.size) _ _ l1_4 30000 t230 _ ?side1 ?side2 A4.out).mono ?_); (case side1 => exact Kd.V_mk HC1_3.out (Kd.F_below (Kd.C_F (Kd.heap_int .u8) HR1_3.out) (by repeat (first | (with_reducible first | exact HB.out | apply below_alloc | apply pw_below_drewN | apply below_drew1 | refine below_set ?_ GE225.out | refine below_set ?_ GE226.out) | exact HB.out)))); (case side2 => exact Kd.V_mk HC1_4.out (Kd.F_below (Kd.C_F k28_heap HR1_4.out) (by repeat (first | (with_reducible first | exact HB.out | apply below_alloc | apply pw_below_drewN | apply below_drew1 | refine below_set ?_ GE225.out | refine below_set ?_ GE226.out) | exact HB.out)))); rintro e w101 ⟨v231, rfl, ho0, hb⟩; refine ⟨_, rfl, ?_⟩; have n0_ := qM (Kd.N_elder' (qN HO229.out) (Kd.N_base ho0) hb); have n1_ := qM (Kd.N_lower (Kd.N_mono (ok' := fun k_ => some k_ ≠ (v228 : Value).ownBlock ∧ k_ ≠ gb225 ∧ k_ ≠ gb226) ho0 (fun k_ hk_ => ⟨Or.elim hk_ (fun hs_ => Or.elim hs_ (fun hs_ => fun e_ => Nat.not_le.2 hs_ (Kd.N_base HO229.out k_ e_.symm)) (fun hs_ => fun e_ => Nat.not_le.2 hs_ (Kd.N_base HO229.out k_ e_.symm))) (fun hn_ => (Kd.fresh' (Kd.N_lt (qN HO229.out)) k_ hn_)), Or.elim hk_ (fun hs_ => Or.elim hs_ (fun hs_ => fun e_ => Nat.not_le.2 hs_ (by rw [e_]; exact GW225.out)) (fun hs_ => fun e_ => Nat.not_le.2 hs_ (by rw [e_]; exact GW225.out))) (fun hn_ => (Kd.freshB (g := gb225) (o := .cells #[.int .i64 a0_0, .string a0_1, .int .i64 a0_2, .slice A0_3 l0_3.length c0_3, .slice A0_4 l0_4.length c0_4] 28 (0, 0)) (qK BK225.out) k_ hn_)), Or.elim hk_ (fun hs_ => Or.elim hs_ (fun hs_ => fun e_ => Nat.not_le.2 hs_ (by rw [e_]; exact GW226.out)) (fun hs_ => fun e_ => Nat.not_le.2 hs_ (by rw [e_]; exact GW226.out))) (fun hn_ => (Kd.freshB (g := gb226) (o := .cells #[.int .i64 a1_0, .string a1_1, .int .i64 a1_2, .slice A1_3 l1_3.length c1_3, .slice A1_4 l1_4.length c1_4] 28 (0, 0)) (qK BK226.out) k_ hn_))⟩)) (below_size (by repeat (first | (with_reducible first | exact HB.out | apply below_alloc | apply pw_below_drewN | apply below_drew1 | refine below_set ?_ GE225.out | refine below_set ?_ GE226.out) | exact HB.out)))); have n2_ := qM (blk_below (g := gb225) (o := .cells #[.int .i64 a0_0, .string a0_1, .int .i64 a0_2, .slice A0_3 l0_3.length c0_3, .slice A0_4 l0_4.length c0_4] 28 (0, 0)) (qK BK225.out) hb); have n3_ := qM (blk_below (g := gb226) (o := .cells #[.int .i64 a1_0, .string a1_1, .int .i64 a1_2, .slice A1_3 l1_3.length c1_3, .slice A1_4 l1_4.length c1_4] 28 (0, 0)) (qK BK226.out) hb); have n4_ := qM (below_step (by repeat (first | (with_reducible first | exact HB.out | apply below_alloc | apply pw_below_drewN | apply below_drew1 | refine below_set ?_ GE225.out | refine below_set ?_ GE226.out) | exact HB.out)) hb); clear HO229; clear BK225; clear BK226; clear HB; have HO229 := n0_; have HO232 := n1_; have BK225 := n2_; have BK226 := n3_; have HB := n4_; clear n0_ n1_ n2_ n3_ n4_; (try clear hb); (try clear hb2); (try clear hk); (try clear hi); (try clear ho0); obtain ⟨Ao102, co102, eo102⟩ := Kd.N_slice HO229.out; subst eo102; obtain ⟨Ao103, co103, eo103⟩ := Kd.N_slice HO232.out; subst eo103))
  go_ret
  exact ⟨by first | rfl | (simp [errW_none, errW_some] <;> rfl) | (simp [*, errW_none, errW_some] <;> rfl), by repeat (first | (with_reducible first | exact HB.out | apply below_alloc | apply pw_below_drewN | apply below_drew1 | refine below_set ?_ GE225.out | refine below_set ?_ GE226.out) | exact HB.out)⟩

end Go.Proofs.YtejidddjkngoiaaDoor.PGram
