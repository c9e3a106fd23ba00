-- Written by a turned copy of the kit's printer (wip/patch_print.py), in this project; not trusted: Lean checks it.
import Derived.Test.YtejidddjkngoiaaDoorPGramx0
import Derived.Test.YtejidddjkngoiaaDoorPGramx3
namespace Go.Proofs.YtejidddjkngoiaaDoor.PGram
open Go.RowKit Go.Proofs.YtejidddjkngoiaaDoorW.PrintWords Go.Proofs.YtejidddjkngoiaaDoorW.PrintLast Go.Proofs.YtejidddjkngoiaaDoorW.PrintMore
attribute [local go_sem] max2_int min2_int max_two min_two max_three min_three max_four min_four   -- for this text's walks alone
set_option linter.unusedVariables false
set_option linter.unusedSimpArgs false

/-! ### rookeryref16_Names: function 13 -/
def rookeryref16_Names.l0 : Nat → List ByteArray → List (S28) → Int → Option (List ByteArray)
  | 0, _, _, _ => none
  | k + 1, x3, x4, x5 => if x5 < (x4.length : Int) then (if 0 ≤ x5 then (if ((rd_T28 x4 x5).f0) = 2 then (if x3.length < 8796093022208 then (rookeryref16_Names.l0 k (x3 ++ [(rd_T28 x4 x5).f1]) x4 (wrap64 (x5 + 1))) else (none)) else (if ((rd_T28 x4 x5).f0) = 3 then (if x3.length < 8796093022208 then (rookeryref16_Names.l0 k (x3 ++ [(rd_T28 x4 x5).f1]) x4 (wrap64 (x5 + 1))) else (none)) else (if ((rd_T28 x4 x5).f0) = 11 then (if x3.length < 8796093022208 then (rookeryref16_Names.l0 k (x3 ++ [(rd_T28 x4 x5).f1]) x4 (wrap64 (x5 + 1))) else (none)) else (if ((rd_T28 x4 x5).f0) = 17 then (if x3.length < 8796093022208 then (rookeryref16_Names.l0 k (x3 ++ [(rd_T28 x4 x5).f1]) x4 (wrap64 (x5 + 1))) else (none)) else (rookeryref16_Names.l0 k x3 x4 (wrap64 (x5 + 1))))))) else (none)) else (some x3)
def rookeryref16_Names.f (k : Nat) (a0_0 : Int) (a0_1 : ByteArray) (a0_2 : Int) (l0_3 : List Int) (l0_4 : List (S28)) : Option (List ByteArray) := (rookeryref16_All.f k a0_0 a0_1 a0_2 l0_3 l0_4 4000).bind fun t178 => (rookeryref16_Names.l0 k ([] : List ByteArray) t178 0)
theorem rookeryref16_Names.mono_l : ∀ k, (∀ y0 y1 y2, LeO (rookeryref16_Names.l0 k y0 y1 y2) (rookeryref16_Names.l0 (k + 1) y0 y1 y2))
  | 0 => fun _ _ _ r h => by simp [rookeryref16_Names.l0] at h
  | k + 1 => by
    have ih0 := rookeryref16_Names.mono_l k
    · intro y0 y1 y2
      unfold rookeryref16_Names.l0
      repeat' first
      | (with_reducible exact ih0 _ _ _)
      | (with_reducible exact rookeryref16_All.mono _ _ _ _ _ _ _)
      | (with_reducible exact LeO.refl _)
      | (with_reducible exact LeO.none _)
      | (with_reducible refine LeO.ite ?_ ?_)
      | (with_reducible refine LeO.bind ?_ (fun _ => ?_))
      | exact ih0 _ _ _
      | exact rookeryref16_All.mono _ _ _ _ _ _ _
      | exact LeO.none _
      | refine LeO.ite ?_ ?_
      | refine LeO.bind ?_ (fun _ => ?_)
theorem rookeryref16_Names.mono : ∀ a0 a1 a2 a3 a4 k, LeO (rookeryref16_Names.f k a0 a1 a2 a3 a4) (rookeryref16_Names.f (k + 1) a0 a1 a2 a3 a4) := by
  intro a0 a1 a2 a3 a4 k
  have ih0 := rookeryref16_Names.mono_l k
  unfold rookeryref16_Names.f
  repeat' first
      | (with_reducible exact ih0 _ _ _)
      | (with_reducible exact rookeryref16_All.mono _ _ _ _ _ _ _)
      | (with_reducible exact LeO.refl _)
      | (with_reducible exact LeO.none _)
      | (with_reducible refine LeO.ite ?_ ?_)
      | (with_reducible refine LeO.bind ?_ (fun _ => ?_))
      | exact ih0 _ _ _
      | exact rookeryref16_All.mono _ _ _ _ _ _ _
      | exact LeO.none _
      | refine LeO.ite ?_ ?_
      | refine LeO.bind ?_ (fun _ => ?_)
set_option maxHeartbeats 8000000 in
set_option maxRecDepth 100000 in
theorem rookeryref16_Names.calls (k : Nat) (a0_0 : Int) (a0_1 : ByteArray) (a0_2 : Int) (A0_3 : Option Addr) (c0_3 : Nat) (l0_3 : List Int) (A0_4 : Option Addr) (c0_4 : Nat) (l0_4 : List (S28)) (r : List ByteArray) (w : World) (hr0_3 : Kd.C (Kd.int .u8) w A0_3 l0_3.length l0_3) (hc0_3 : l0_3.length ≤ c0_3) (hr0_4 : Kd.C k28 w A0_4 l0_4.length l0_4) (hc0_4 : l0_4.length ≤ c0_4) (h : rookeryref16_Names.f k a0_0 a0_1 a0_2 l0_3 l0_4 = some r) :
    Calls Tryd.prog 13 #[.agg #[.int .i64 a0_0, .string a0_1, .int .i64 a0_2, .slice A0_3 l0_3.length c0_3, .slice A0_4 l0_4.length c0_4]] w fun e w' => ∃ v0_ : Value, e = .returned (v0_) ∧ Kd.R Kd.string 9 w' w.heap.size (fun _ => True) v0_ r ∧ Below w.heap.size w w' := by
  have hu28 := Tryd.underlying28
  have HR0_3 := Aside0.mk hr0_3
  have HC0_3 := Aside0.mk hc0_3
  clear hr0_3 hc0_3
  have HR0_4 := Aside0.mk hr0_4
  have HC0_4 := Aside0.mk hc0_4
  clear hr0_4 hc0_4
  have HB := Aside0.mk (Below.refl w.heap.size w)
  have H : ((rookeryref16_All.f k a0_0 a0_1 a0_2 l0_3 l0_4 4000).bind fun t178 => (rookeryref16_Names.l0 k ([] : List ByteArray) t178 0)) = some r := h
  clear h
  replace H := Option.bind_eq_some_iff.mp H
  obtain ⟨t178, A20, H⟩ := H
  replace H : (rookeryref16_Names.l0 k ([] : List ByteArray) t178 0) = some r := H
  have A2 := Aside0.mk A20
  clear A20
  have H' := Aside0.mk H
  clear H
  go_enter Tryd.func13, Tryd.ntmps13
  go_wp2_with (first | ((with_reducible refine gate_dst (N := 1) rfl ?_); refine box_event ?hg (N := 1) ?hd (cs := #[.int .i64 a0_0, .string a0_1, .int .i64 a0_2, .slice A0_3 l0_3.length c0_3, .slice A0_4 l0_4.length c0_4]) (t := 28) ?hr ?_; (case hd => rfl); (case hg => rfl); (case hr => first | (go_simp; done) | (go_simp; rfl)); intro gb177 hg w3 hbox hb; have n0_ := Aside0.mk (below_step (by repeat (first | (with_reducible first | exact HB.out | apply below_alloc | apply pw_below_drewN | apply below_drew1) | exact HB.out)) hb); have n1_ := Aside0.mk (hbox); have n2_ := Aside0.mk ((by rw [hg]; exact (below_size (by repeat (first | (with_reducible first | exact HB.out | apply below_alloc | apply pw_below_drewN | apply below_drew1) | exact HB.out))) : w.heap.size ≤ gb177)); have n3_ := Aside0.mk ((by rw [hg]; exact (below_size (by repeat (first | (with_reducible first | exact HB.out | apply below_alloc | apply pw_below_drewN | apply below_drew1) | exact HB.out))) : w.heap.size ≤ gb177)); clear HB; have HB := n0_; have BK177 := n1_; have GW177 := n2_; have GE177 := n3_; clear n0_ n1_ n2_ n3_; clear hb hbox hg; have hcz4_0 : w3.cell? ⟨gb177, 0, none⟩ = some (.int .i64 a0_0) := (blk_cell BK177.out 0).trans rfl; have hcz4_1 : w3.cell? ⟨gb177, 1, none⟩ = some (.string a0_1) := (blk_cell BK177.out 1).trans rfl; have hcz4_2 : w3.cell? ⟨gb177, 2, none⟩ = some (.int .i64 a0_2) := (blk_cell BK177.out 2).trans rfl; have hcz4_3 : w3.cell? ⟨gb177, 3, none⟩ = some (.slice A0_3 l0_3.length c0_3) := (blk_cell BK177.out 3).trans rfl; have hcz4_4 : w3.cell? ⟨gb177, 4, none⟩ = some (.slice A0_4 l0_4.length c0_4) := (blk_cell BK177.out 4).trans rfl; have hfz4_0 := blk_frozen BK177.out 0; have hfz4_1 := blk_frozen BK177.out 1; have hfz4_2 := blk_frozen BK177.out 2; have hfz4_3 := blk_frozen BK177.out 3; have hfz4_4 := blk_frozen BK177.out 4) | ((with_reducible refine gate_callee (f := 16) rfl ?_); refine goesL_ (some 7) rfl rfl Tryd.func16 (by kernel_rfl) rfl #[.agg #[.int .i64 a0_0, .string a0_1, .int .i64 a0_2, .slice A0_3 l0_3.length c0_3, .slice A0_4 l0_4.length c0_4], .int .i64 4000] rfl (by (try simp only [List.map_toArray, List.map_cons, List.map_nil]); first | done | rfl | (simp only [List.length_drop, List.length_take]; rfl)) ?_; (with_reducible refine (rookeryref16_All.calls k a0_0 a0_1 a0_2 (fun k_ => k_ < w.heap.size) _ _ l0_3 (fun k_ => k_ < w.heap.size) _ _ l0_4 4000 t178 _ ?side1 ?side2 A2.out).mono ?_); (case side1 => exact Kd.V_mk HC0_3.out (Kd.F_below (Kd.C_F (Kd.heap_int .u8) HR0_3.out) (by repeat (first | (with_reducible first | exact HB.out | apply below_alloc | apply pw_below_drewN | apply below_drew1 | refine below_set ?_ GE177.out) | exact HB.out)))); (case side2 => exact Kd.V_mk HC0_4.out (Kd.F_below (Kd.C_F k28_heap HR0_4.out) (by repeat (first | (with_reducible first | exact HB.out | apply below_alloc | apply pw_below_drewN | apply below_drew1 | refine below_set ?_ GE177.out) | exact HB.out)))); rintro e w5 ⟨v179, rfl, ho0, hb⟩; refine ⟨_, rfl, ?_⟩; have n0_ := Aside0.mk (Kd.N_lower (Kd.N_mono (ok' := fun k_ => k_ ≠ gb177) ho0 (fun k_ hk_ => Or.elim hk_ (fun hs_ => Or.elim hs_ (fun hs_ => fun e_ => Nat.not_le.2 hs_ (by rw [e_]; exact GW177.out)) (fun hs_ => fun e_ => Nat.not_le.2 hs_ (by rw [e_]; exact GW177.out))) (fun hn_ => (Kd.freshB (g := gb177) (o := .cells #[.int .i64 a0_0, .string a0_1, .int .i64 a0_2, .slice A0_3 l0_3.length c0_3, .slice A0_4 l0_4.length c0_4] 28 (0, 0)) (by (with_reducible repeat (first | refine blk_drewN ?_ _ | refine blk_drew ?_ | refine blk_alloc ?_ _)); exact BK177.out) k_ hn_)))) (below_size (by repeat (first | (with_reducible first | exact HB.out | apply below_alloc | apply pw_below_drewN | apply below_drew1 | refine below_set ?_ GE177.out) | exact HB.out)))); have n1_ := Aside0.mk (blk_below (g := gb177) (o := .cells #[.int .i64 a0_0, .string a0_1, .int .i64 a0_2, .slice A0_3 l0_3.length c0_3, .slice A0_4 l0_4.length c0_4] 28 (0, 0)) (by (with_reducible repeat (first | refine blk_drewN ?_ _ | refine blk_drew ?_ | refine blk_alloc ?_ _)); exact BK177.out) hb); have n2_ := Aside0.mk (below_step (by repeat (first | (with_reducible first | exact HB.out | apply below_alloc | apply pw_below_drewN | apply below_drew1 | refine below_set ?_ GE177.out) | exact HB.out)) hb); clear BK177; clear HB; have HO180 := n0_; have BK177 := n1_; have HB := n2_; clear n0_ n1_ n2_; (try clear hb); (try clear hb2); (try clear hk); (try clear hi); (try clear ho0)))
  go_loopg [3, 5] k (fun kq v3 v5 w' => ∃ (x3_1 : List ByteArray) (x5_1 : Int), v5 = .int .i64 x5_1 ∧ Aside0 (rookeryref16_Names.l0 kq x3_1 t178 x5_1 = some r) ∧ Aside0 (kq ≤ k) ∧ Aside0 (Kd.R Kd.string 9 w' w.heap.size (fun _ => True) v3 x3_1) ∧ Aside0 (Kd.N k28 28 w' w.heap.size (fun k_ => some k_ ≠ (v3 : Value).ownBlock ∧ k_ ≠ gb177) v179 t178) ∧ Aside0 (w'.heap[gb177]? = some (.cells #[.int .i64 a0_0, .string a0_1, .int .i64 a0_2, (.slice A0_3 l0_3.length c0_3), (.slice A0_4 l0_4.length c0_4)] 28 (0, 0))) ∧ Aside0 (Below w.heap.size w w'))
  case atStart => exact ⟨(([] : List ByteArray)), (0), (by first | rfl | (simp; done) | (simp [*]; done)), H', ⟨Nat.le_refl _⟩, ⟨by first | exact Kd.R_nil _ _ _ _ _ | exact Kd.N_nil _ _ _ _ _ | exact Kd.V_nil _ _ _ _ _ | exact Kd.Q_nil _ _ _ _ _ | exact Kd.S_nil _ _ _ _ _⟩, ⟨by (with_reducible repeat (first | apply Kd.N_alloc | apply Kd.N_drewN | apply Kd.N_drew)); exact Kd.N_mono HO180.out (fun _ hk => ⟨(by simp [Value.ownBlock]), hk⟩)⟩, ⟨by (with_reducible repeat (first | refine blk_drewN ?_ _ | refine blk_drew ?_ | refine blk_alloc ?_ _)); exact BK177.out⟩, ⟨by repeat (first | (with_reducible first | exact HB.out | apply below_alloc | apply pw_below_drewN | apply below_drew1 | refine below_set ?_ GE177.out) | exact HB.out)⟩⟩
  case round =>
    clear H'
    try clear c1
    try clear p2
    try clear hcz4_0
    try clear hcz4_1
    try clear hcz4_2
    try clear hcz4_3
    try clear hcz4_4
    try clear hfz4_0
    try clear hfz4_1
    try clear hfz4_2
    try clear hfz4_3
    try clear hfz4_4
    obtain ⟨x3_1, x5_1, rfl, HA, HK1, HO_3, HO_4, BK177, HB⟩ := hrel
    cases gk with
    | zero => exact absurd HA.out (by simp [rookeryref16_Names.l0])
    | succ k1 =>
      have H := HA.out
      clear HA
      simp only [rookeryref16_Names.l0] at H
      by_cases c6 : x5_1 < (t178.length : Int)
      · rw [if_pos c6] at H
        have c6b0 : decide (x5_1 < (t178.length : Int)) = true := decide_eq_true c6
        clear c6
        by_cases c7 : 0 ≤ x5_1
        · rw [if_pos c7] at H
          have c7b0 : decide (0 ≤ x5_1) = true := decide_eq_true c7
          clear c7
          by_cases c8 : ((rd_T28 t178 x5_1).f0) = 2
          · rw [if_pos c8] at H
            have c8b0 : (((rd_T28 t178 x5_1).f0) == 2) = true := beq_iff_eq.mpr c8
            have c8b1 : (((rd_T28 t178 x5_1).f0) != 2) = false := bne_eq_false_iff_eq.mpr c8
            clear c8
            by_cases c9 : x3_1.length < 8796093022208
            · rw [if_pos c9] at H
              have LMc9 := Aside0.mk c9
              clear c9
              obtain ⟨y183, hy183⟩ : ∃ y_ : List ByteArray, y_ = (x3_1 ++ [(rd_T28 t178 x5_1).f1]) := ⟨_, rfl⟩
              replace H : (rookeryref16_Names.l0 k1 y183 t178 (wrap64 (x5_1 + 1))) = some r := by first | (rw [hy183]; with_reducible exact H) | (have H2_ := (Option.bind_some _ _).symm.trans H; rw [hy183]; with_reducible exact H2_) | (have H2_ := (Option.bind_some _ _).symm.trans H; with_reducible exact H2_) | with_reducible exact H | (rw [hy183]; exact H) | exact H
              have Ny183 := Aside0.mk hy183
              clear hy183
              have H' := Aside0.mk H
              clear H
              obtain ⟨Ao10, co10, eo10⟩ := Kd.N_slice HO_4.out
              subst eo10
              have p181 : 0 ≤ (x5_1 : Int) := of_decide_eq_true (by first | (with_reducible assumption) | assumption)
              have q181 : x5_1 < (t178.length : Int) := of_decide_eq_true (by first | (with_reducible assumption) | assumption)
              obtain ⟨ad181, A181_3, c181_3, A181_4, c181_4, e181, hx181_0, hx181_1, hx181_2, hx181_3, hx181_4, hl181_3, hi181_3, hl181_4, hi181_4⟩ := at_T28 (Kd.N_reads' HO_4.out).2.2 x5_1 p181 q181
              cases e181
              obtain ⟨ce181, hce181, hMe181, hcc181⟩ := Kd.N_get HO_4.out z28 x5_1 p181 (by first | exact q181 | exact of_decide_eq_true (by first | (with_reducible assumption) | assumption) | (have e_ := (Kd.N_reads' HO_4.out).1; omega))
              obtain ⟨ua181_3, uc181_3, ua181_4, uc181_4, rfl, ul181_3, ge181_3, ul181_4, ge181_4⟩ := k28_openF hMe181
              have hv181_3 := hcc181 3 _ rfl
              rw [add_field _ _ 3 (by omega)] at hv181_3
              replace hv181_3 := Option.some.inj (hv181_3.symm.trans hx181_3)
              injection hv181_3 with hva_ hvn_ hvc_
              rw [hva_] at ge181_3
              rw [hvc_] at ul181_3
              have HL181_3 := Aside0.mk (show Kd.V (Kd.int .u8) 5 _ w.heap.size _ _ ((rd_T28 t178 x5_1).f3) from Kd.V_mk ul181_3 ge181_3)
              clear hva_ hvn_ hvc_ ge181_3 ul181_3
              have hv181_4 := hcc181 4 _ rfl
              rw [add_field _ _ 4 (by omega)] at hv181_4
              replace hv181_4 := Option.some.inj (hv181_4.symm.trans hx181_4)
              injection hv181_4 with hva_ hvn_ hvc_
              rw [hva_] at ge181_4
              rw [hvc_] at ul181_4
              have HL181_4 := Aside0.mk (show Kd.V k28 28 _ w.heap.size _ _ ((rd_T28 t178 x5_1).f4) from Kd.V_mk ul181_4 ge181_4)
              clear hva_ hvn_ hvc_ ge181_4 ul181_4
              clear hcc181 hce181
              have HR181_3 := Aside0.mk hi181_3
              have HC181_3 := Aside0.mk hl181_3
              clear hi181_3 hl181_3
              have HR181_4 := Aside0.mk hi181_4
              have HC181_4 := Aside0.mk hl181_4
              clear hi181_4 hl181_4
              replace p181 := eq_true p181
              replace q181 := eq_true q181
              have p182 : 0 ≤ (x5_1 : Int) := of_decide_eq_true (by first | (with_reducible assumption) | assumption)
              have q182 : x5_1 < (t178.length : Int) := of_decide_eq_true (by first | (with_reducible assumption) | assumption)
              obtain ⟨ad182, A182_3, c182_3, A182_4, c182_4, e182, hx182_0, hx182_1, hx182_2, hx182_3, hx182_4, hl182_3, hi182_3, hl182_4, hi182_4⟩ := at_T28 (Kd.N_reads' HO_4.out).2.2 x5_1 p182 q182
              obtain rfl : ad181 = ad182 := (by injection e182)
              obtain ⟨ce182, hce182, hMe182, hcc182⟩ := Kd.N_get HO_4.out z28 x5_1 p182 (by first | exact q182 | exact of_decide_eq_true (by first | (with_reducible assumption) | assumption) | (have e_ := (Kd.N_reads' HO_4.out).1; omega))
              obtain ⟨ua182_3, uc182_3, ua182_4, uc182_4, rfl, ul182_3, ge182_3, ul182_4, ge182_4⟩ := k28_openF hMe182
              have hv182_3 := hcc182 3 _ rfl
              rw [add_field _ _ 3 (by omega)] at hv182_3
              replace hv182_3 := Option.some.inj (hv182_3.symm.trans hx182_3)
              injection hv182_3 with hva_ hvn_ hvc_
              rw [hva_] at ge182_3
              rw [hvc_] at ul182_3
              have HL182_3 := Aside0.mk (show Kd.V (Kd.int .u8) 5 _ w.heap.size _ _ ((rd_T28 t178 x5_1).f3) from Kd.V_mk ul182_3 ge182_3)
              clear hva_ hvn_ hvc_ ge182_3 ul182_3
              have hv182_4 := hcc182 4 _ rfl
              rw [add_field _ _ 4 (by omega)] at hv182_4
              replace hv182_4 := Option.some.inj (hv182_4.symm.trans hx182_4)
              injection hv182_4 with hva_ hvn_ hvc_
              rw [hva_] at ge182_4
              rw [hvc_] at ul182_4
              have HL182_4 := Aside0.mk (show Kd.V k28 28 _ w.heap.size _ _ ((rd_T28 t178 x5_1).f4) from Kd.V_mk ul182_4 ge182_4)
              clear hva_ hvn_ hvc_ ge182_4 ul182_4
              clear hcc182 hce182
              have HR182_3 := Aside0.mk hi182_3
              have HC182_3 := Aside0.mk hl182_3
              clear hi182_3 hl182_3
              have HR182_4 := Aside0.mk hi182_4
              have HC182_4 := Aside0.mk hl182_4
              clear hi182_4 hl182_4
              replace p182 := eq_true p182
              replace q182 := eq_true q182
              have ea_ := Option.some.inj (hx181_3.symm.trans hx182_3)
              injection ea_ with ea_ en_ ec_
              subst ea_
              subst ec_
              clear en_
              have ea_ := Option.some.inj (hx181_4.symm.trans hx182_4)
              injection ea_ with ea_ en_ ec_
              subst ea_
              subst ec_
              clear en_
              go_wp2_with (first | ((with_reducible refine gate_builtin (b := .append) (xs := #[.tmp 44, .tmp 50]) rfl ?_); at_builtin; refine Kd.R_append Kd.string (w0 := w) w.heap.size rfl (.tmp 44) (.tmp 50) 23 9 (.string ⟨#[]⟩) 16 rfl Tryd.underlying23 info9 rfl (by decide) (by omega) u3 x3_1 ((rd_T28 t178 x5_1).f1) [.string ((rd_T28 t178 x5_1).f1)] (fun _ => True) (fun _ => False) rfl rfl ?aP (fun _ hk => hk.elim) ?aF ?aO ?aB ?aS ?aL ?_; (case aP => exact rfl); (case aB => exact (by repeat (first | (with_reducible first | exact HB.out | apply below_alloc | apply pw_below_drewN | apply below_drew1 | refine below_set ?_ GE177.out) | exact HB.out))); (case aF => exact (fun _ _ => trivial)); (case aO => exact (by (with_reducible repeat (first | apply Kd.R_alloc | apply Kd.R_drewN | apply Kd.R_drew)); exact HO_3.out)); (case aS => exact (below_size (by repeat (first | (with_reducible first | exact HB.out | apply below_alloc | apply pw_below_drewN | apply below_drew1 | refine below_set ?_ GE177.out) | exact HB.out)))); (case aL => have := LMc9.out; omega); intro v184 w11 ho hb hg hat; rw [← Ny183.out] at ho; have n0_ := Aside0.mk (Kd.N_afterv (ok := (fun k_ => k_ ≠ gb177)) (by (with_reducible repeat (first | apply Kd.N_alloc | apply Kd.N_drewN | apply Kd.N_drew)); exact Kd.N_mono HO_4.out (fun _ hk => ⟨hk.2, hk.1⟩)) hg hat); have n1_ := Aside0.mk (blk_grown (g := gb177) (o := .cells #[.int .i64 a0_0, .string a0_1, .int .i64 a0_2, .slice A0_3 l0_3.length c0_3, .slice A0_4 l0_4.length c0_4] 28 (0, 0)) (by (with_reducible repeat (first | refine blk_drewN ?_ _ | refine blk_drew ?_ | refine blk_alloc ?_ _)); exact BK177.out) hg (Kd.R_ne HO_3.out BK177.out (by decide))); have n2_ := Aside0.mk (Kd.V_afterv (ok := (fun k_ => some k_ ≠ (.slice (some ad181) t178.length co10 : Value).ownBlock ∧ k_ ≠ gb177)) (by (with_reducible repeat (first | apply Kd.V_alloc | apply Kd.V_drewN | apply Kd.V_drew)); exact Kd.V_mono HL181_3.out (fun _ hk => ⟨⟨hk.2, hk.1.2⟩, hk.1.1⟩)) hg hat); have n3_ := Aside0.mk (Kd.V_afterv (ok := (fun k_ => some k_ ≠ (.slice (some ad181) t178.length co10 : Value).ownBlock ∧ k_ ≠ gb177)) (by (with_reducible repeat (first | apply Kd.V_alloc | apply Kd.V_drewN | apply Kd.V_drew)); exact Kd.V_mono HL181_4.out (fun _ hk => ⟨⟨hk.2, hk.1.2⟩, hk.1.1⟩)) hg hat); have n4_ := Aside0.mk (Kd.V_afterv (ok := (fun k_ => some k_ ≠ (.slice (some ad181) t178.length co10 : Value).ownBlock ∧ k_ ≠ gb177)) (by (with_reducible repeat (first | apply Kd.V_alloc | apply Kd.V_drewN | apply Kd.V_drew)); exact Kd.V_mono HL182_3.out (fun _ hk => ⟨⟨hk.2, hk.1.2⟩, hk.1.1⟩)) hg hat); have n5_ := Aside0.mk (Kd.V_afterv (ok := (fun k_ => some k_ ≠ (.slice (some ad181) t178.length co10 : Value).ownBlock ∧ k_ ≠ gb177)) (by (with_reducible repeat (first | apply Kd.V_alloc | apply Kd.V_drewN | apply Kd.V_drew)); exact Kd.V_mono HL182_4.out (fun _ hk => ⟨⟨hk.2, hk.1.2⟩, hk.1.1⟩)) hg hat); have n6_ := Aside0.mk (hb); have n7_ := Aside0.mk (ho); clear HO_4; clear BK177; clear HL181_3; clear HL181_4; clear HL182_3; clear HL182_4; clear HB; clear HO_3; have HO_4 := n0_; have BK177 := n1_; have HL181_3 := n2_; have HL181_4 := n3_; have HL182_3 := n4_; have HL182_4 := n5_; have HB := n6_; have HO185 := n7_; clear n0_ n1_ n2_ n3_ n4_ n5_ n6_ n7_; clear ho hb hg hat))
              go_roundg k1
              case measure => have := HK1.out; omega
              case rel => exact ⟨(y183), (wrap64 (x5_1 + 1)), (by first | rfl | (simp; done) | (simp [*]; done)), H', ⟨by have := HK1.out; omega⟩, ⟨by (with_reducible repeat (first | apply Kd.R_alloc | apply Kd.R_drewN | apply Kd.R_drew)); exact HO185.out⟩, ⟨by (with_reducible repeat (first | apply Kd.N_alloc | apply Kd.N_drewN | apply Kd.N_drew)); exact Kd.N_mono HO_4.out (fun _ hk => ⟨hk.2, hk.1⟩)⟩, ⟨by (with_reducible repeat (first | refine blk_drewN ?_ _ | refine blk_drew ?_ | refine blk_alloc ?_ _)); exact BK177.out⟩, ⟨by repeat (first | (with_reducible first | exact HB.out | apply below_alloc | apply pw_below_drewN | apply below_drew1 | refine below_set ?_ GE177.out) | exact HB.out)⟩⟩
            · rw [if_neg c9] at H
              exact absurd H (by simp)
          · rw [if_neg c8] at H
            have c8b0 : (((rd_T28 t178 x5_1).f0) == 2) = false := beq_eq_false_iff_ne.mpr c8
            have c8b1 : (((rd_T28 t178 x5_1).f0) != 2) = true := bne_iff_ne.mpr c8
            by_cases c12 : ((rd_T28 t178 x5_1).f0) = 3
            · rw [if_pos c12] at H
              have c12b0 : (((rd_T28 t178 x5_1).f0) == 3) = true := beq_iff_eq.mpr c12
              have c12b1 : (((rd_T28 t178 x5_1).f0) != 3) = false := bne_eq_false_iff_eq.mpr c12
              clear c12
              by_cases c13 : x3_1.length < 8796093022208
              · rw [if_pos c13] at H
                have LMc13 := Aside0.mk c13
                clear c13
                obtain ⟨y188, hy188⟩ : ∃ y_ : List ByteArray, y_ = (x3_1 ++ [(rd_T28 t178 x5_1).f1]) := ⟨_, rfl⟩
                replace H : (rookeryref16_Names.l0 k1 y188 t178 (wrap64 (x5_1 + 1))) = some r := by first | (rw [hy188]; with_reducible exact H) | (have H2_ := (Option.bind_some _ _).symm.trans H; rw [hy188]; with_reducible exact H2_) | (have H2_ := (Option.bind_some _ _).symm.trans H; with_reducible exact H2_) | with_reducible exact H | (rw [hy188]; exact H) | exact H
                have Ny188 := Aside0.mk hy188
                clear hy188
                have H' := Aside0.mk H
                clear H
                obtain ⟨Ao14, co14, eo14⟩ := Kd.N_slice HO_4.out
                subst eo14
                have p181 : 0 ≤ (x5_1 : Int) := of_decide_eq_true (by first | (with_reducible assumption) | assumption)
                have q181 : x5_1 < (t178.length : Int) := of_decide_eq_true (by first | (with_reducible assumption) | assumption)
                obtain ⟨ad181, A181_3, c181_3, A181_4, c181_4, e181, hx181_0, hx181_1, hx181_2, hx181_3, hx181_4, hl181_3, hi181_3, hl181_4, hi181_4⟩ := at_T28 (Kd.N_reads' HO_4.out).2.2 x5_1 p181 q181
                cases e181
                obtain ⟨ce181, hce181, hMe181, hcc181⟩ := Kd.N_get HO_4.out z28 x5_1 p181 (by first | exact q181 | exact of_decide_eq_true (by first | (with_reducible assumption) | assumption) | (have e_ := (Kd.N_reads' HO_4.out).1; omega))
                obtain ⟨ua181_3, uc181_3, ua181_4, uc181_4, rfl, ul181_3, ge181_3, ul181_4, ge181_4⟩ := k28_openF hMe181
                have hv181_3 := hcc181 3 _ rfl
                rw [add_field _ _ 3 (by omega)] at hv181_3
                replace hv181_3 := Option.some.inj (hv181_3.symm.trans hx181_3)
                injection hv181_3 with hva_ hvn_ hvc_
                rw [hva_] at ge181_3
                rw [hvc_] at ul181_3
                have HL181_3 := Aside0.mk (show Kd.V (Kd.int .u8) 5 _ w.heap.size _ _ ((rd_T28 t178 x5_1).f3) from Kd.V_mk ul181_3 ge181_3)
                clear hva_ hvn_ hvc_ ge181_3 ul181_3
                have hv181_4 := hcc181 4 _ rfl
                rw [add_field _ _ 4 (by omega)] at hv181_4
                replace hv181_4 := Option.some.inj (hv181_4.symm.trans hx181_4)
                injection hv181_4 with hva_ hvn_ hvc_
                rw [hva_] at ge181_4
                rw [hvc_] at ul181_4
                have HL181_4 := Aside0.mk (show Kd.V k28 28 _ w.heap.size _ _ ((rd_T28 t178 x5_1).f4) from Kd.V_mk ul181_4 ge181_4)
                clear hva_ hvn_ hvc_ ge181_4 ul181_4
                clear hcc181 hce181
                have HR181_3 := Aside0.mk hi181_3
                have HC181_3 := Aside0.mk hl181_3
                clear hi181_3 hl181_3
                have HR181_4 := Aside0.mk hi181_4
                have HC181_4 := Aside0.mk hl181_4
                clear hi181_4 hl181_4
                replace p181 := eq_true p181
                replace q181 := eq_true q181
                have p186 : 0 ≤ (x5_1 : Int) := of_decide_eq_true (by first | (with_reducible assumption) | assumption)
                have q186 : x5_1 < (t178.length : Int) := of_decide_eq_true (by first | (with_reducible assumption) | assumption)
                obtain ⟨ad186, A186_3, c186_3, A186_4, c186_4, e186, hx186_0, hx186_1, hx186_2, hx186_3, hx186_4, hl186_3, hi186_3, hl186_4, hi186_4⟩ := at_T28 (Kd.N_reads' HO_4.out).2.2 x5_1 p186 q186
                obtain rfl : ad181 = ad186 := (by injection e186)
                obtain ⟨ce186, hce186, hMe186, hcc186⟩ := Kd.N_get HO_4.out z28 x5_1 p186 (by first | exact q186 | exact of_decide_eq_true (by first | (with_reducible assumption) | assumption) | (have e_ := (Kd.N_reads' HO_4.out).1; omega))
                obtain ⟨ua186_3, uc186_3, ua186_4, uc186_4, rfl, ul186_3, ge186_3, ul186_4, ge186_4⟩ := k28_openF hMe186
                have hv186_3 := hcc186 3 _ rfl
                rw [add_field _ _ 3 (by omega)] at hv186_3
                replace hv186_3 := Option.some.inj (hv186_3.symm.trans hx186_3)
                injection hv186_3 with hva_ hvn_ hvc_
                rw [hva_] at ge186_3
                rw [hvc_] at ul186_3
                have HL186_3 := Aside0.mk (show Kd.V (Kd.int .u8) 5 _ w.heap.size _ _ ((rd_T28 t178 x5_1).f3) from Kd.V_mk ul186_3 ge186_3)
                clear hva_ hvn_ hvc_ ge186_3 ul186_3
                have hv186_4 := hcc186 4 _ rfl
                rw [add_field _ _ 4 (by omega)] at hv186_4
                replace hv186_4 := Option.some.inj (hv186_4.symm.trans hx186_4)
                injection hv186_4 with hva_ hvn_ hvc_
                rw [hva_] at ge186_4
                rw [hvc_] at ul186_4
                have HL186_4 := Aside0.mk (show Kd.V k28 28 _ w.heap.size _ _ ((rd_T28 t178 x5_1).f4) from Kd.V_mk ul186_4 ge186_4)
                clear hva_ hvn_ hvc_ ge186_4 ul186_4
                clear hcc186 hce186
                have HR186_3 := Aside0.mk hi186_3
                have HC186_3 := Aside0.mk hl186_3
                clear hi186_3 hl186_3
                have HR186_4 := Aside0.mk hi186_4
                have HC186_4 := Aside0.mk hl186_4
                clear hi186_4 hl186_4
                replace p186 := eq_true p186
                replace q186 := eq_true q186
                have ea_ := Option.some.inj (hx181_3.symm.trans hx186_3)
                injection ea_ with ea_ en_ ec_
                subst ea_
                subst ec_
                clear en_
                have ea_ := Option.some.inj (hx181_4.symm.trans hx186_4)
                injection ea_ with ea_ en_ ec_
                subst ea_
                subst ec_
                clear en_
                have p187 : 0 ≤ (x5_1 : Int) := of_decide_eq_true (by first | (with_reducible assumption) | assumption)
                have q187 : x5_1 < (t178.length : Int) := of_decide_eq_true (by first | (with_reducible assumption) | assumption)
                obtain ⟨ad187, A187_3, c187_3, A187_4, c187_4, e187, hx187_0, hx187_1, hx187_2, hx187_3, hx187_4, hl187_3, hi187_3, hl187_4, hi187_4⟩ := at_T28 (Kd.N_reads' HO_4.out).2.2 x5_1 p187 q187
                obtain rfl : ad181 = ad187 := (by injection e187)
                obtain ⟨ce187, hce187, hMe187, hcc187⟩ := Kd.N_get HO_4.out z28 x5_1 p187 (by first | exact q187 | exact of_decide_eq_true (by first | (with_reducible assumption) | assumption) | (have e_ := (Kd.N_reads' HO_4.out).1; omega))
                obtain ⟨ua187_3, uc187_3, ua187_4, uc187_4, rfl, ul187_3, ge187_3, ul187_4, ge187_4⟩ := k28_openF hMe187
                have hv187_3 := hcc187 3 _ rfl
                rw [add_field _ _ 3 (by omega)] at hv187_3
                replace hv187_3 := Option.some.inj (hv187_3.symm.trans hx187_3)
                injection hv187_3 with hva_ hvn_ hvc_
                rw [hva_] at ge187_3
                rw [hvc_] at ul187_3
                have HL187_3 := Aside0.mk (show Kd.V (Kd.int .u8) 5 _ w.heap.size _ _ ((rd_T28 t178 x5_1).f3) from Kd.V_mk ul187_3 ge187_3)
                clear hva_ hvn_ hvc_ ge187_3 ul187_3
                have hv187_4 := hcc187 4 _ rfl
                rw [add_field _ _ 4 (by omega)] at hv187_4
                replace hv187_4 := Option.some.inj (hv187_4.symm.trans hx187_4)
                injection hv187_4 with hva_ hvn_ hvc_
                rw [hva_] at ge187_4
                rw [hvc_] at ul187_4
                have HL187_4 := Aside0.mk (show Kd.V k28 28 _ w.heap.size _ _ ((rd_T28 t178 x5_1).f4) from Kd.V_mk ul187_4 ge187_4)
                clear hva_ hvn_ hvc_ ge187_4 ul187_4
                clear hcc187 hce187
                have HR187_3 := Aside0.mk hi187_3
                have HC187_3 := Aside0.mk hl187_3
                clear hi187_3 hl187_3
                have HR187_4 := Aside0.mk hi187_4
                have HC187_4 := Aside0.mk hl187_4
                clear hi187_4 hl187_4
                replace p187 := eq_true p187
                replace q187 := eq_true q187
                have ea_ := Option.some.inj (hx181_3.symm.trans hx187_3)
                injection ea_ with ea_ en_ ec_
                subst ea_
                subst ec_
                clear en_
                have ea_ := Option.some.inj (hx181_4.symm.trans hx187_4)
                injection ea_ with ea_ en_ ec_
                subst ea_
                subst ec_
                clear en_
                go_wp2_with (first | ((with_reducible refine gate_builtin (b := .append) (xs := #[.tmp 44, .tmp 50]) rfl ?_); at_builtin; refine Kd.R_append Kd.string (w0 := w) w.heap.size rfl (.tmp 44) (.tmp 50) 23 9 (.string ⟨#[]⟩) 16 rfl Tryd.underlying23 info9 rfl (by decide) (by omega) u3 x3_1 ((rd_T28 t178 x5_1).f1) [.string ((rd_T28 t178 x5_1).f1)] (fun _ => True) (fun _ => False) rfl rfl ?aP (fun _ hk => hk.elim) ?aF ?aO ?aB ?aS ?aL ?_; (case aP => exact rfl); (case aB => exact (by repeat (first | (with_reducible first | exact HB.out | apply below_alloc | apply pw_below_drewN | apply below_drew1 | refine below_set ?_ GE177.out) | exact HB.out))); (case aF => exact (fun _ _ => trivial)); (case aO => exact (by (with_reducible repeat (first | apply Kd.R_alloc | apply Kd.R_drewN | apply Kd.R_drew)); exact HO_3.out)); (case aS => exact (below_size (by repeat (first | (with_reducible first | exact HB.out | apply below_alloc | apply pw_below_drewN | apply below_drew1 | refine below_set ?_ GE177.out) | exact HB.out)))); (case aL => have := LMc13.out; omega); intro v189 w15 ho hb hg hat; rw [← Ny188.out] at ho; have n0_ := Aside0.mk (Kd.N_afterv (ok := (fun k_ => k_ ≠ gb177)) (by (with_reducible repeat (first | apply Kd.N_alloc | apply Kd.N_drewN | apply Kd.N_drew)); exact Kd.N_mono HO_4.out (fun _ hk => ⟨hk.2, hk.1⟩)) hg hat); have n1_ := Aside0.mk (blk_grown (g := gb177) (o := .cells #[.int .i64 a0_0, .string a0_1, .int .i64 a0_2, .slice A0_3 l0_3.length c0_3, .slice A0_4 l0_4.length c0_4] 28 (0, 0)) (by (with_reducible repeat (first | refine blk_drewN ?_ _ | refine blk_drew ?_ | refine blk_alloc ?_ _)); exact BK177.out) hg (Kd.R_ne HO_3.out BK177.out (by decide))); have n2_ := Aside0.mk (Kd.V_afterv (ok := (fun k_ => some k_ ≠ (.slice (some ad181) t178.length co14 : Value).ownBlock ∧ k_ ≠ gb177)) (by (with_reducible repeat (first | apply Kd.V_alloc | apply Kd.V_drewN | apply Kd.V_drew)); exact Kd.V_mono HL181_3.out (fun _ hk => ⟨⟨hk.2, hk.1.2⟩, hk.1.1⟩)) hg hat); have n3_ := Aside0.mk (Kd.V_afterv (ok := (fun k_ => some k_ ≠ (.slice (some ad181) t178.length co14 : Value).ownBlock ∧ k_ ≠ gb177)) (by (with_reducible repeat (first | apply Kd.V_alloc | apply Kd.V_drewN | apply Kd.V_drew)); exact Kd.V_mono HL181_4.out (fun _ hk => ⟨⟨hk.2, hk.1.2⟩, hk.1.1⟩)) hg hat); have n4_ := Aside0.mk (Kd.V_afterv (ok := (fun k_ => some k_ ≠ (.slice (some ad181) t178.length co14 : Value).ownBlock ∧ k_ ≠ gb177)) (by (with_reducible repeat (first | apply Kd.V_alloc | apply Kd.V_drewN | apply Kd.V_drew)); exact Kd.V_mono HL186_3.out (fun _ hk => ⟨⟨hk.2, hk.1.2⟩, hk.1.1⟩)) hg hat); have n5_ := Aside0.mk (Kd.V_afterv (ok := (fun k_ => some k_ ≠ (.slice (some ad181) t178.length co14 : Value).ownBlock ∧ k_ ≠ gb177)) (by (with_reducible repeat (first | apply Kd.V_alloc | apply Kd.V_drewN | apply Kd.V_drew)); exact Kd.V_mono HL186_4.out (fun _ hk => ⟨⟨hk.2, hk.1.2⟩, hk.1.1⟩)) hg hat); have n6_ := Aside0.mk (Kd.V_afterv (ok := (fun k_ => some k_ ≠ (.slice (some ad181) t178.length co14 : Value).ownBlock ∧ k_ ≠ gb177)) (by (with_reducible repeat (first | apply Kd.V_alloc | apply Kd.V_drewN | apply Kd.V_drew)); exact Kd.V_mono HL187_3.out (fun _ hk => ⟨⟨hk.2, hk.1.2⟩, hk.1.1⟩)) hg hat); have n7_ := Aside0.mk (Kd.V_afterv (ok := (fun k_ => some k_ ≠ (.slice (some ad181) t178.length co14 : Value).ownBlock ∧ k_ ≠ gb177)) (by (with_reducible repeat (first | apply Kd.V_alloc | apply Kd.V_drewN | apply Kd.V_drew)); exact Kd.V_mono HL187_4.out (fun _ hk => ⟨⟨hk.2, hk.1.2⟩, hk.1.1⟩)) hg hat); have n8_ := Aside0.mk (hb); have n9_ := Aside0.mk (ho); clear HO_4; clear BK177; clear HL181_3; clear HL181_4; clear HL186_3; clear HL186_4; clear HL187_3; clear HL187_4; clear HB; clear HO_3; have HO_4 := n0_; have BK177 := n1_; have HL181_3 := n2_; have HL181_4 := n3_; have HL186_3 := n4_; have HL186_4 := n5_; have HL187_3 := n6_; have HL187_4 := n7_; have HB := n8_; have HO190 := n9_; clear n0_ n1_ n2_ n3_ n4_ n5_ n6_ n7_ n8_ n9_; clear ho hb hg hat))
                go_roundg k1
                case measure => have := HK1.out; omega
                case rel => exact ⟨(y188), (wrap64 (x5_1 + 1)), (by first | rfl | (simp; done) | (simp [*]; done)), H', ⟨by have := HK1.out; omega⟩, ⟨by (with_reducible repeat (first | apply Kd.R_alloc | apply Kd.R_drewN | apply Kd.R_drew)); exact HO190.out⟩, ⟨by (with_reducible repeat (first | apply Kd.N_alloc | apply Kd.N_drewN | apply Kd.N_drew)); exact Kd.N_mono HO_4.out (fun _ hk => ⟨hk.2, hk.1⟩)⟩, ⟨by (with_reducible repeat (first | refine blk_drewN ?_ _ | refine blk_drew ?_ | refine blk_alloc ?_ _)); exact BK177.out⟩, ⟨by repeat (first | (with_reducible first | exact HB.out | apply below_alloc | apply pw_below_drewN | apply below_drew1 | refine below_set ?_ GE177.out) | exact HB.out)⟩⟩
              · rw [if_neg c13] at H
                exact absurd H (by simp)
            · rw [if_neg c12] at H
              have c12b0 : (((rd_T28 t178 x5_1).f0) == 3) = false := beq_eq_false_iff_ne.mpr c12
              have c12b1 : (((rd_T28 t178 x5_1).f0) != 3) = true := bne_iff_ne.mpr c12
              by_cases c16 : ((rd_T28 t178 x5_1).f0) = 11
              · rw [if_pos c16] at H
                have c16b0 : (((rd_T28 t178 x5_1).f0) == 11) = true := beq_iff_eq.mpr c16
                have c16b1 : (((rd_T28 t178 x5_1).f0) != 11) = false := bne_eq_false_iff_eq.mpr c16
                clear c16
                by_cases c17 : x3_1.length < 8796093022208
                · rw [if_pos c17] at H
                  have LMc17 := Aside0.mk c17
                  clear c17
                  obtain ⟨y193, hy193⟩ : ∃ y_ : List ByteArray, y_ = (x3_1 ++ [(rd_T28 t178 x5_1).f1]) := ⟨_, rfl⟩
                  replace H : (rookeryref16_Names.l0 k1 y193 t178 (wrap64 (x5_1 + 1))) = some r := by first | (rw [hy193]; with_reducible exact H) | (have H2_ := (Option.bind_some _ _).symm.trans H; rw [hy193]; with_reducible exact H2_) | (have H2_ := (Option.bind_some _ _).symm.trans H; with_reducible exact H2_) | with_reducible exact H | (rw [hy193]; exact H) | exact H
                  have Ny193 := Aside0.mk hy193
                  clear hy193
                  have H' := Aside0.mk H
                  clear H
                  obtain ⟨Ao18, co18, eo18⟩ := Kd.N_slice HO_4.out
                  subst eo18
                  have p181 : 0 ≤ (x5_1 : Int) := of_decide_eq_true (by first | (with_reducible assumption) | assumption)
                  have q181 : x5_1 < (t178.length : Int) := of_decide_eq_true (by first | (with_reducible assumption) | assumption)
                  obtain ⟨ad181, A181_3, c181_3, A181_4, c181_4, e181, hx181_0, hx181_1, hx181_2, hx181_3, hx181_4, hl181_3, hi181_3, hl181_4, hi181_4⟩ := at_T28 (Kd.N_reads' HO_4.out).2.2 x5_1 p181 q181
                  cases e181
                  obtain ⟨ce181, hce181, hMe181, hcc181⟩ := Kd.N_get HO_4.out z28 x5_1 p181 (by first | exact q181 | exact of_decide_eq_true (by first | (with_reducible assumption) | assumption) | (have e_ := (Kd.N_reads' HO_4.out).1; omega))
                  obtain ⟨ua181_3, uc181_3, ua181_4, uc181_4, rfl, ul181_3, ge181_3, ul181_4, ge181_4⟩ := k28_openF hMe181
                  have hv181_3 := hcc181 3 _ rfl
                  rw [add_field _ _ 3 (by omega)] at hv181_3
                  replace hv181_3 := Option.some.inj (hv181_3.symm.trans hx181_3)
                  injection hv181_3 with hva_ hvn_ hvc_
                  rw [hva_] at ge181_3
                  rw [hvc_] at ul181_3
                  have HL181_3 := Aside0.mk (show Kd.V (Kd.int .u8) 5 _ w.heap.size _ _ ((rd_T28 t178 x5_1).f3) from Kd.V_mk ul181_3 ge181_3)
                  clear hva_ hvn_ hvc_ ge181_3 ul181_3
                  have hv181_4 := hcc181 4 _ rfl
                  rw [add_field _ _ 4 (by omega)] at hv181_4
                  replace hv181_4 := Option.some.inj (hv181_4.symm.trans hx181_4)
                  injection hv181_4 with hva_ hvn_ hvc_
                  rw [hva_] at ge181_4
                  rw [hvc_] at ul181_4
                  have HL181_4 := Aside0.mk (show Kd.V k28 28 _ w.heap.size _ _ ((rd_T28 t178 x5_1).f4) from Kd.V_mk ul181_4 ge181_4)
                  clear hva_ hvn_ hvc_ ge181_4 ul181_4
                  clear hcc181 hce181
                  have HR181_3 := Aside0.mk hi181_3
                  have HC181_3 := Aside0.mk hl181_3
                  clear hi181_3 hl181_3
                  have HR181_4 := Aside0.mk hi181_4
                  have HC181_4 := Aside0.mk hl181_4
                  clear hi181_4 hl181_4
                  replace p181 := eq_true p181
                  replace q181 := eq_true q181
                  have p186 : 0 ≤ (x5_1 : Int) := of_decide_eq_true (by first | (with_reducible assumption) | assumption)
                  have q186 : x5_1 < (t178.length : Int) := of_decide_eq_true (by first | (with_reducible assumption) | assumption)
                  obtain ⟨ad186, A186_3, c186_3, A186_4, c186_4, e186, hx186_0, hx186_1, hx186_2, hx186_3, hx186_4, hl186_3, hi186_3, hl186_4, hi186_4⟩ := at_T28 (Kd.N_reads' HO_4.out).2.2 x5_1 p186 q186
                  obtain rfl : ad181 = ad186 := (by injection e186)
                  obtain ⟨ce186, hce186, hMe186, hcc186⟩ := Kd.N_get HO_4.out z28 x5_1 p186 (by first | exact q186 | exact of_decide_eq_true (by first | (with_reducible assumption) | assumption) | (have e_ := (Kd.N_reads' HO_4.out).1; omega))
                  obtain ⟨ua186_3, uc186_3, ua186_4, uc186_4, rfl, ul186_3, ge186_3, ul186_4, ge186_4⟩ := k28_openF hMe186
                  have hv186_3 := hcc186 3 _ rfl
                  rw [add_field _ _ 3 (by omega)] at hv186_3
                  replace hv186_3 := Option.some.inj (hv186_3.symm.trans hx186_3)
                  injection hv186_3 with hva_ hvn_ hvc_
                  rw [hva_] at ge186_3
                  rw [hvc_] at ul186_3
                  have HL186_3 := Aside0.mk (show Kd.V (Kd.int .u8) 5 _ w.heap.size _ _ ((rd_T28 t178 x5_1).f3) from Kd.V_mk ul186_3 ge186_3)
                  clear hva_ hvn_ hvc_ ge186_3 ul186_3
                  have hv186_4 := hcc186 4 _ rfl
                  rw [add_field _ _ 4 (by omega)] at hv186_4
                  replace hv186_4 := Option.some.inj (hv186_4.symm.trans hx186_4)
                  injection hv186_4 with hva_ hvn_ hvc_
                  rw [hva_] at ge186_4
                  rw [hvc_] at ul186_4
                  have HL186_4 := Aside0.mk (show Kd.V k28 28 _ w.heap.size _ _ ((rd_T28 t178 x5_1).f4) from Kd.V_mk ul186_4 ge186_4)
                  clear hva_ hvn_ hvc_ ge186_4 ul186_4
                  clear hcc186 hce186
                  have HR186_3 := Aside0.mk hi186_3
                  have HC186_3 := Aside0.mk hl186_3
                  clear hi186_3 hl186_3
                  have HR186_4 := Aside0.mk hi186_4
                  have HC186_4 := Aside0.mk hl186_4
                  clear hi186_4 hl186_4
                  replace p186 := eq_true p186
                  replace q186 := eq_true q186
                  have ea_ := Option.some.inj (hx181_3.symm.trans hx186_3)
                  injection ea_ with ea_ en_ ec_
                  subst ea_
                  subst ec_
                  clear en_
                  have ea_ := Option.some.inj (hx181_4.symm.trans hx186_4)
                  injection ea_ with ea_ en_ ec_
                  subst ea_
                  subst ec_
                  clear en_
                  have p191 : 0 ≤ (x5_1 : Int) := of_decide_eq_true (by first | (with_reducible assumption) | assumption)
                  have q191 : x5_1 < (t178.length : Int) := of_decide_eq_true (by first | (with_reducible assumption) | assumption)
                  obtain ⟨ad191, A191_3, c191_3, A191_4, c191_4, e191, hx191_0, hx191_1, hx191_2, hx191_3, hx191_4, hl191_3, hi191_3, hl191_4, hi191_4⟩ := at_T28 (Kd.N_reads' HO_4.out).2.2 x5_1 p191 q191
                  obtain rfl : ad181 = ad191 := (by injection e191)
                  obtain ⟨ce191, hce191, hMe191, hcc191⟩ := Kd.N_get HO_4.out z28 x5_1 p191 (by first | exact q191 | exact of_decide_eq_true (by first | (with_reducible assumption) | assumption) | (have e_ := (Kd.N_reads' HO_4.out).1; omega))
                  obtain ⟨ua191_3, uc191_3, ua191_4, uc191_4, rfl, ul191_3, ge191_3, ul191_4, ge191_4⟩ := k28_openF hMe191
                  have hv191_3 := hcc191 3 _ rfl
                  rw [add_field _ _ 3 (by omega)] at hv191_3
                  replace hv191_3 := Option.some.inj (hv191_3.symm.trans hx191_3)
                  injection hv191_3 with hva_ hvn_ hvc_
                  rw [hva_] at ge191_3
                  rw [hvc_] at ul191_3
                  have HL191_3 := Aside0.mk (show Kd.V (Kd.int .u8) 5 _ w.heap.size _ _ ((rd_T28 t178 x5_1).f3) from Kd.V_mk ul191_3 ge191_3)
                  clear hva_ hvn_ hvc_ ge191_3 ul191_3
                  have hv191_4 := hcc191 4 _ rfl
                  rw [add_field _ _ 4 (by omega)] at hv191_4
                  replace hv191_4 := Option.some.inj (hv191_4.symm.trans hx191_4)
                  injection hv191_4 with hva_ hvn_ hvc_
                  rw [hva_] at ge191_4
                  rw [hvc_] at ul191_4
                  have HL191_4 := Aside0.mk (show Kd.V k28 28 _ w.heap.size _ _ ((rd_T28 t178 x5_1).f4) from Kd.V_mk ul191_4 ge191_4)
                  clear hva_ hvn_ hvc_ ge191_4 ul191_4
                  clear hcc191 hce191
                  have HR191_3 := Aside0.mk hi191_3
                  have HC191_3 := Aside0.mk hl191_3
                  clear hi191_3 hl191_3
                  have HR191_4 := Aside0.mk hi191_4
                  have HC191_4 := Aside0.mk hl191_4
                  clear hi191_4 hl191_4
                  replace p191 := eq_true p191
                  replace q191 := eq_true q191
                  have ea_ := Option.some.inj (hx181_3.symm.trans hx191_3)
                  injection ea_ with ea_ en_ ec_
                  subst ea_
                  subst ec_
                  clear en_
                  have ea_ := Option.some.inj (hx181_4.symm.trans hx191_4)
                  injection ea_ with ea_ en_ ec_
                  subst ea_
                  subst ec_
                  clear en_
                  have p192 : 0 ≤ (x5_1 : Int) := of_decide_eq_true (by first | (with_reducible assumption) | assumption)
                  have q192 : x5_1 < (t178.length : Int) := of_decide_eq_true (by first | (with_reducible assumption) | assumption)
                  obtain ⟨ad192, A192_3, c192_3, A192_4, c192_4, e192, hx192_0, hx192_1, hx192_2, hx192_3, hx192_4, hl192_3, hi192_3, hl192_4, hi192_4⟩ := at_T28 (Kd.N_reads' HO_4.out).2.2 x5_1 p192 q192
                  obtain rfl : ad181 = ad192 := (by injection e192)
                  obtain ⟨ce192, hce192, hMe192, hcc192⟩ := Kd.N_get HO_4.out z28 x5_1 p192 (by first | exact q192 | exact of_decide_eq_true (by first | (with_reducible assumption) | assumption) | (have e_ := (Kd.N_reads' HO_4.out).1; omega))
                  obtain ⟨ua192_3, uc192_3, ua192_4, uc192_4, rfl, ul192_3, ge192_3, ul192_4, ge192_4⟩ := k28_openF hMe192
                  have hv192_3 := hcc192 3 _ rfl
                  rw [add_field _ _ 3 (by omega)] at hv192_3
                  replace hv192_3 := Option.some.inj (hv192_3.symm.trans hx192_3)
                  injection hv192_3 with hva_ hvn_ hvc_
                  rw [hva_] at ge192_3
                  rw [hvc_] at ul192_3
                  have HL192_3 := Aside0.mk (show Kd.V (Kd.int .u8) 5 _ w.heap.size _ _ ((rd_T28 t178 x5_1).f3) from Kd.V_mk ul192_3 ge192_3)
                  clear hva_ hvn_ hvc_ ge192_3 ul192_3
                  have hv192_4 := hcc192 4 _ rfl
                  rw [add_field _ _ 4 (by omega)] at hv192_4
                  replace hv192_4 := Option.some.inj (hv192_4.symm.trans hx192_4)
                  injection hv192_4 with hva_ hvn_ hvc_
                  rw [hva_] at ge192_4
                  rw [hvc_] at ul192_4
                  have HL192_4 := Aside0.mk (show Kd.V k28 28 _ w.heap.size _ _ ((rd_T28 t178 x5_1).f4) from Kd.V_mk ul192_4 ge192_4)
                  clear hva_ hvn_ hvc_ ge192_4 ul192_4
                  clear hcc192 hce192
                  have HR192_3 := Aside0.mk hi192_3
                  have HC192_3 := Aside0.mk hl192_3
                  clear hi192_3 hl192_3
                  have HR192_4 := Aside0.mk hi192_4
                  have HC192_4 := Aside0.mk hl192_4
                  clear hi192_4 hl192_4
                  replace p192 := eq_true p192
                  replace q192 := eq_true q192
                  have ea_ := Option.some.inj (hx181_3.symm.trans hx192_3)
                  injection ea_ with ea_ en_ ec_
                  subst ea_
                  subst ec_
                  clear en_
                  have ea_ := Option.some.inj (hx181_4.symm.trans hx192_4)
                  injection ea_ with ea_ en_ ec_
                  subst ea_
                  subst ec_
                  clear en_
                  go_wp2_with (first | ((with_reducible refine gate_builtin (b := .append) (xs := #[.tmp 44, .tmp 50]) rfl ?_); at_builtin; refine Kd.R_append Kd.string (w0 := w) w.heap.size rfl (.tmp 44) (.tmp 50) 23 9 (.string ⟨#[]⟩) 16 rfl Tryd.underlying23 info9 rfl (by decide) (by omega) u3 x3_1 ((rd_T28 t178 x5_1).f1) [.string ((rd_T28 t178 x5_1).f1)] (fun _ => True) (fun _ => False) rfl rfl ?aP (fun _ hk => hk.elim) ?aF ?aO ?aB ?aS ?aL ?_; (case aP => exact rfl); (case aB => exact (by repeat (first | (with_reducible first | exact HB.out | apply below_alloc | apply pw_below_drewN | apply below_drew1 | refine below_set ?_ GE177.out) | exact HB.out))); (case aF => exact (fun _ _ => trivial)); (case aO => exact (by (with_reducible repeat (first | apply Kd.R_alloc | apply Kd.R_drewN | apply Kd.R_drew)); exact HO_3.out)); (case aS => exact (below_size (by repeat (first | (with_reducible first | exact HB.out | apply below_alloc | apply pw_below_drewN | apply below_drew1 | refine below_set ?_ GE177.out) | exact HB.out)))); (case aL => have := LMc17.out; omega); intro v194 w19 ho hb hg hat; rw [← Ny193.out] at ho; have n0_ := Aside0.mk (Kd.N_afterv (ok := (fun k_ => k_ ≠ gb177)) (by (with_reducible repeat (first | apply Kd.N_alloc | apply Kd.N_drewN | apply Kd.N_drew)); exact Kd.N_mono HO_4.out (fun _ hk => ⟨hk.2, hk.1⟩)) hg hat); have n1_ := Aside0.mk (blk_grown (g := gb177) (o := .cells #[.int .i64 a0_0, .string a0_1, .int .i64 a0_2, .slice A0_3 l0_3.length c0_3, .slice A0_4 l0_4.length c0_4] 28 (0, 0)) (by (with_reducible repeat (first | refine blk_drewN ?_ _ | refine blk_drew ?_ | refine blk_alloc ?_ _)); exact BK177.out) hg (Kd.R_ne HO_3.out BK177.out (by decide))); have n2_ := Aside0.mk (Kd.V_afterv (ok := (fun k_ => some k_ ≠ (.slice (some ad181) t178.length co18 : Value).ownBlock ∧ k_ ≠ gb177)) (by (with_reducible repeat (first | apply Kd.V_alloc | apply Kd.V_drewN | apply Kd.V_drew)); exact Kd.V_mono HL181_3.out (fun _ hk => ⟨⟨hk.2, hk.1.2⟩, hk.1.1⟩)) hg hat); have n3_ := Aside0.mk (Kd.V_afterv (ok := (fun k_ => some k_ ≠ (.slice (some ad181) t178.length co18 : Value).ownBlock ∧ k_ ≠ gb177)) (by (with_reducible repeat (first | apply Kd.V_alloc | apply Kd.V_drewN | apply Kd.V_drew)); exact Kd.V_mono HL181_4.out (fun _ hk => ⟨⟨hk.2, hk.1.2⟩, hk.1.1⟩)) hg hat); have n4_ := Aside0.mk (Kd.V_afterv (ok := (fun k_ => some k_ ≠ (.slice (some ad181) t178.length co18 : Value).ownBlock ∧ k_ ≠ gb177)) (by (with_reducible repeat (first | apply Kd.V_alloc | apply Kd.V_drewN | apply Kd.V_drew)); exact Kd.V_mono HL186_3.out (fun _ hk => ⟨⟨hk.2, hk.1.2⟩, hk.1.1⟩)) hg hat); have n5_ := Aside0.mk (Kd.V_afterv (ok := (fun k_ => some k_ ≠ (.slice (some ad181) t178.length co18 : Value).ownBlock ∧ k_ ≠ gb177)) (by (with_reducible repeat (first | apply Kd.V_alloc | apply Kd.V_drewN | apply Kd.V_drew)); exact Kd.V_mono HL186_4.out (fun _ hk => ⟨⟨hk.2, hk.1.2⟩, hk.1.1⟩)) hg hat); have n6_ := Aside0.mk (Kd.V_afterv (ok := (fun k_ => some k_ ≠ (.slice (some ad181) t178.length co18 : Value).ownBlock ∧ k_ ≠ gb177)) (by (with_reducible repeat (first | apply Kd.V_alloc | apply Kd.V_drewN | apply Kd.V_drew)); exact Kd.V_mono HL191_3.out (fun _ hk => ⟨⟨hk.2, hk.1.2⟩, hk.1.1⟩)) hg hat); have n7_ := Aside0.mk (Kd.V_afterv (ok := (fun k_ => some k_ ≠ (.slice (some ad181) t178.length co18 : Value).ownBlock ∧ k_ ≠ gb177)) (by (with_reducible repeat (first | apply Kd.V_alloc | apply Kd.V_drewN | apply Kd.V_drew)); exact Kd.V_mono HL191_4.out (fun _ hk => ⟨⟨hk.2, hk.1.2⟩, hk.1.1⟩)) hg hat); have n8_ := Aside0.mk (Kd.V_afterv (ok := (fun k_ => some k_ ≠ (.slice (some ad181) t178.length co18 : Value).ownBlock ∧ k_ ≠ gb177)) (by (with_reducible repeat (first | apply Kd.V_alloc | apply Kd.V_drewN | apply Kd.V_drew)); exact Kd.V_mono HL192_3.out (fun _ hk => ⟨⟨hk.2, hk.1.2⟩, hk.1.1⟩)) hg hat); have n9_ := Aside0.mk (Kd.V_afterv (ok := (fun k_ => some k_ ≠ (.slice (some ad181) t178.length co18 : Value).ownBlock ∧ k_ ≠ gb177)) (by (with_reducible repeat (first | apply Kd.V_alloc | apply Kd.V_drewN | apply Kd.V_drew)); exact Kd.V_mono HL192_4.out (fun _ hk => ⟨⟨hk.2, hk.1.2⟩, hk.1.1⟩)) hg hat); have n10_ := Aside0.mk (hb); have n11_ := Aside0.mk (ho); clear HO_4; clear BK177; clear HL181_3; clear HL181_4; clear HL186_3; clear HL186_4; clear HL191_3; clear HL191_4; clear HL192_3; clear HL192_4; clear HB; clear HO_3; have HO_4 := n0_; have BK177 := n1_; have HL181_3 := n2_; have HL181_4 := n3_; have HL186_3 := n4_; have HL186_4 := n5_; have HL191_3 := n6_; have HL191_4 := n7_; have HL192_3 := n8_; have HL192_4 := n9_; have HB := n10_; have HO195 := n11_; clear n0_ n1_ n2_ n3_ n4_ n5_ n6_ n7_ n8_ n9_ n10_ n11_; clear ho hb hg hat))
                  go_roundg k1
                  case measure => have := HK1.out; omega
                  case rel => exact ⟨(y193), (wrap64 (x5_1 + 1)), (by first | rfl | (simp; done) | (simp [*]; done)), H', ⟨by have := HK1.out; omega⟩, ⟨by (with_reducible repeat (first | apply Kd.R_alloc | apply Kd.R_drewN | apply Kd.R_drew)); exact HO195.out⟩, ⟨by (with_reducible repeat (first | apply Kd.N_alloc | apply Kd.N_drewN | apply Kd.N_drew)); exact Kd.N_mono HO_4.out (fun _ hk => ⟨hk.2, hk.1⟩)⟩, ⟨by (with_reducible repeat (first | refine blk_drewN ?_ _ | refine blk_drew ?_ | refine blk_alloc ?_ _)); exact BK177.out⟩, ⟨by repeat (first | (with_reducible first | exact HB.out | apply below_alloc | apply pw_below_drewN | apply below_drew1 | refine below_set ?_ GE177.out) | exact HB.out)⟩⟩
                · rw [if_neg c17] at H
                  exact absurd H (by simp)
              · rw [if_neg c16] at H
                have c16b0 : (((rd_T28 t178 x5_1).f0) == 11) = false := beq_eq_false_iff_ne.mpr c16
                have c16b1 : (((rd_T28 t178 x5_1).f0) != 11) = true := bne_iff_ne.mpr c16
                by_cases c20 : ((rd_T28 t178 x5_1).f0) = 17
                · rw [if_pos c20] at H
                  have c20b0 : (((rd_T28 t178 x5_1).f0) == 17) = true := beq_iff_eq.mpr c20
                  have c20b1 : (((rd_T28 t178 x5_1).f0) != 17) = false := bne_eq_false_iff_eq.mpr c20
                  clear c20
                  by_cases c21 : x3_1.length < 8796093022208
                  · rw [if_pos c21] at H
                    have LMc21 := Aside0.mk c21
                    clear c21
                    obtain ⟨y198, hy198⟩ : ∃ y_ : List ByteArray, y_ = (x3_1 ++ [(rd_T28 t178 x5_1).f1]) := ⟨_, rfl⟩
                    replace H : (rookeryref16_Names.l0 k1 y198 t178 (wrap64 (x5_1 + 1))) = some r := by first | (rw [hy198]; with_reducible exact H) | (have H2_ := (Option.bind_some _ _).symm.trans H; rw [hy198]; with_reducible exact H2_) | (have H2_ := (Option.bind_some _ _).symm.trans H; with_reducible exact H2_) | with_reducible exact H | (rw [hy198]; exact H) | exact H
                    have Ny198 := Aside0.mk hy198
                    clear hy198
                    have H' := Aside0.mk H
                    clear H
                    obtain ⟨Ao22, co22, eo22⟩ := Kd.N_slice HO_4.out
                    subst eo22
                    have p181 : 0 ≤ (x5_1 : Int) := of_decide_eq_true (by first | (with_reducible assumption) | assumption)
                    have q181 : x5_1 < (t178.length : Int) := of_decide_eq_true (by first | (with_reducible assumption) | assumption)
                    obtain ⟨ad181, A181_3, c181_3, A181_4, c181_4, e181, hx181_0, hx181_1, hx181_2, hx181_3, hx181_4, hl181_3, hi181_3, hl181_4, hi181_4⟩ := at_T28 (Kd.N_reads' HO_4.out).2.2 x5_1 p181 q181
                    cases e181
                    obtain ⟨ce181, hce181, hMe181, hcc181⟩ := Kd.N_get HO_4.out z28 x5_1 p181 (by first | exact q181 | exact of_decide_eq_true (by first | (with_reducible assumption) | assumption) | (have e_ := (Kd.N_reads' HO_4.out).1; omega))
                    obtain ⟨ua181_3, uc181_3, ua181_4, uc181_4, rfl, ul181_3, ge181_3, ul181_4, ge181_4⟩ := k28_openF hMe181
                    have hv181_3 := hcc181 3 _ rfl
                    rw [add_field _ _ 3 (by omega)] at hv181_3
                    replace hv181_3 := Option.some.inj (hv181_3.symm.trans hx181_3)
                    injection hv181_3 with hva_ hvn_ hvc_
                    rw [hva_] at ge181_3
                    rw [hvc_] at ul181_3
                    have HL181_3 := Aside0.mk (show Kd.V (Kd.int .u8) 5 _ w.heap.size _ _ ((rd_T28 t178 x5_1).f3) from Kd.V_mk ul181_3 ge181_3)
                    clear hva_ hvn_ hvc_ ge181_3 ul181_3
                    have hv181_4 := hcc181 4 _ rfl
                    rw [add_field _ _ 4 (by omega)] at hv181_4
                    replace hv181_4 := Option.some.inj (hv181_4.symm.trans hx181_4)
                    injection hv181_4 with hva_ hvn_ hvc_
                    rw [hva_] at ge181_4
                    rw [hvc_] at ul181_4
                    have HL181_4 := Aside0.mk (show Kd.V k28 28 _ w.heap.size _ _ ((rd_T28 t178 x5_1).f4) from Kd.V_mk ul181_4 ge181_4)
                    clear hva_ hvn_ hvc_ ge181_4 ul181_4
                    clear hcc181 hce181
                    have HR181_3 := Aside0.mk hi181_3
                    have HC181_3 := Aside0.mk hl181_3
                    clear hi181_3 hl181_3
                    have HR181_4 := Aside0.mk hi181_4
                    have HC181_4 := Aside0.mk hl181_4
                    clear hi181_4 hl181_4
                    replace p181 := eq_true p181
                    replace q181 := eq_true q181
                    have p186 : 0 ≤ (x5_1 : Int) := of_decide_eq_true (by first | (with_reducible assumption) | assumption)
                    have q186 : x5_1 < (t178.length : Int) := of_decide_eq_true (by first | (with_reducible assumption) | assumption)
                    obtain ⟨ad186, A186_3, c186_3, A186_4, c186_4, e186, hx186_0, hx186_1, hx186_2, hx186_3, hx186_4, hl186_3, hi186_3, hl186_4, hi186_4⟩ := at_T28 (Kd.N_reads' HO_4.out).2.2 x5_1 p186 q186
                    obtain rfl : ad181 = ad186 := (by injection e186)
                    obtain ⟨ce186, hce186, hMe186, hcc186⟩ := Kd.N_get HO_4.out z28 x5_1 p186 (by first | exact q186 | exact of_decide_eq_true (by first | (with_reducible assumption) | assumption) | (have e_ := (Kd.N_reads' HO_4.out).1; omega))
                    obtain ⟨ua186_3, uc186_3, ua186_4, uc186_4, rfl, ul186_3, ge186_3, ul186_4, ge186_4⟩ := k28_openF hMe186
                    have hv186_3 := hcc186 3 _ rfl
                    rw [add_field _ _ 3 (by omega)] at hv186_3
                    replace hv186_3 := Option.some.inj (hv186_3.symm.trans hx186_3)
                    injection hv186_3 with hva_ hvn_ hvc_
                    rw [hva_] at ge186_3
                    rw [hvc_] at ul186_3
                    have HL186_3 := Aside0.mk (show Kd.V (Kd.int .u8) 5 _ w.heap.size _ _ ((rd_T28 t178 x5_1).f3) from Kd.V_mk ul186_3 ge186_3)
                    clear hva_ hvn_ hvc_ ge186_3 ul186_3
                    have hv186_4 := hcc186 4 _ rfl
                    rw [add_field _ _ 4 (by omega)] at hv186_4
                    replace hv186_4 := Option.some.inj (hv186_4.symm.trans hx186_4)
                    injection hv186_4 with hva_ hvn_ hvc_
                    rw [hva_] at ge186_4
                    rw [hvc_] at ul186_4
                    have HL186_4 := Aside0.mk (show Kd.V k28 28 _ w.heap.size _ _ ((rd_T28 t178 x5_1).f4) from Kd.V_mk ul186_4 ge186_4)
                    clear hva_ hvn_ hvc_ ge186_4 ul186_4
                    clear hcc186 hce186
                    have HR186_3 := Aside0.mk hi186_3
                    have HC186_3 := Aside0.mk hl186_3
                    clear hi186_3 hl186_3
                    have HR186_4 := Aside0.mk hi186_4
                    have HC186_4 := Aside0.mk hl186_4
                    clear hi186_4 hl186_4
                    replace p186 := eq_true p186
                    replace q186 := eq_true q186
                    have ea_ := Option.some.inj (hx181_3.symm.trans hx186_3)
                    injection ea_ with ea_ en_ ec_
                    subst ea_
                    subst ec_
                    clear en_
                    have ea_ := Option.some.inj (hx181_4.symm.trans hx186_4)
                    injection ea_ with ea_ en_ ec_
                    subst ea_
                    subst ec_
                    clear en_
                    have p191 : 0 ≤ (x5_1 : Int) := of_decide_eq_true (by first | (with_reducible assumption) | assumption)
                    have q191 : x5_1 < (t178.length : Int) := of_decide_eq_true (by first | (with_reducible assumption) | assumption)
                    obtain ⟨ad191, A191_3, c191_3, A191_4, c191_4, e191, hx191_0, hx191_1, hx191_2, hx191_3, hx191_4, hl191_3, hi191_3, hl191_4, hi191_4⟩ := at_T28 (Kd.N_reads' HO_4.out).2.2 x5_1 p191 q191
                    obtain rfl : ad181 = ad191 := (by injection e191)
                    obtain ⟨ce191, hce191, hMe191, hcc191⟩ := Kd.N_get HO_4.out z28 x5_1 p191 (by first | exact q191 | exact of_decide_eq_true (by first | (with_reducible assumption) | assumption) | (have e_ := (Kd.N_reads' HO_4.out).1; omega))
                    obtain ⟨ua191_3, uc191_3, ua191_4, uc191_4, rfl, ul191_3, ge191_3, ul191_4, ge191_4⟩ := k28_openF hMe191
                    have hv191_3 := hcc191 3 _ rfl
                    rw [add_field _ _ 3 (by omega)] at hv191_3
                    replace hv191_3 := Option.some.inj (hv191_3.symm.trans hx191_3)
                    injection hv191_3 with hva_ hvn_ hvc_
                    rw [hva_] at ge191_3
                    rw [hvc_] at ul191_3
                    have HL191_3 := Aside0.mk (show Kd.V (Kd.int .u8) 5 _ w.heap.size _ _ ((rd_T28 t178 x5_1).f3) from Kd.V_mk ul191_3 ge191_3)
                    clear hva_ hvn_ hvc_ ge191_3 ul191_3
                    have hv191_4 := hcc191 4 _ rfl
                    rw [add_field _ _ 4 (by omega)] at hv191_4
                    replace hv191_4 := Option.some.inj (hv191_4.symm.trans hx191_4)
                    injection hv191_4 with hva_ hvn_ hvc_
                    rw [hva_] at ge191_4
                    rw [hvc_] at ul191_4
                    have HL191_4 := Aside0.mk (show Kd.V k28 28 _ w.heap.size _ _ ((rd_T28 t178 x5_1).f4) from Kd.V_mk ul191_4 ge191_4)
                    clear hva_ hvn_ hvc_ ge191_4 ul191_4
                    clear hcc191 hce191
                    have HR191_3 := Aside0.mk hi191_3
                    have HC191_3 := Aside0.mk hl191_3
                    clear hi191_3 hl191_3
                    have HR191_4 := Aside0.mk hi191_4
                    have HC191_4 := Aside0.mk hl191_4
                    clear hi191_4 hl191_4
                    replace p191 := eq_true p191
                    replace q191 := eq_true q191
                    have ea_ := Option.some.inj (hx181_3.symm.trans hx191_3)
                    injection ea_ with ea_ en_ ec_
                    subst ea_
                    subst ec_
                    clear en_
                    have ea_ := Option.some.inj (hx181_4.symm.trans hx191_4)
                    injection ea_ with ea_ en_ ec_
                    subst ea_
                    subst ec_
                    clear en_
                    have p196 : 0 ≤ (x5_1 : Int) := of_decide_eq_true (by first | (with_reducible assumption) | assumption)
                    have q196 : x5_1 < (t178.length : Int) := of_decide_eq_true (by first | (with_reducible assumption) | assumption)
                    obtain ⟨ad196, A196_3, c196_3, A196_4, c196_4, e196, hx196_0, hx196_1, hx196_2, hx196_3, hx196_4, hl196_3, hi196_3, hl196_4, hi196_4⟩ := at_T28 (Kd.N_reads' HO_4.out).2.2 x5_1 p196 q196
                    obtain rfl : ad181 = ad196 := (by injection e196)
                    obtain ⟨ce196, hce196, hMe196, hcc196⟩ := Kd.N_get HO_4.out z28 x5_1 p196 (by first | exact q196 | exact of_decide_eq_true (by first | (with_reducible assumption) | assumption) | (have e_ := (Kd.N_reads' HO_4.out).1; omega))
                    obtain ⟨ua196_3, uc196_3, ua196_4, uc196_4, rfl, ul196_3, ge196_3, ul196_4, ge196_4⟩ := k28_openF hMe196
                    have hv196_3 := hcc196 3 _ rfl
                    rw [add_field _ _ 3 (by omega)] at hv196_3
                    replace hv196_3 := Option.some.inj (hv196_3.symm.trans hx196_3)
                    injection hv196_3 with hva_ hvn_ hvc_
                    rw [hva_] at ge196_3
                    rw [hvc_] at ul196_3
                    have HL196_3 := Aside0.mk (show Kd.V (Kd.int .u8) 5 _ w.heap.size _ _ ((rd_T28 t178 x5_1).f3) from Kd.V_mk ul196_3 ge196_3)
                    clear hva_ hvn_ hvc_ ge196_3 ul196_3
                    have hv196_4 := hcc196 4 _ rfl
                    rw [add_field _ _ 4 (by omega)] at hv196_4
                    replace hv196_4 := Option.some.inj (hv196_4.symm.trans hx196_4)
                    injection hv196_4 with hva_ hvn_ hvc_
                    rw [hva_] at ge196_4
                    rw [hvc_] at ul196_4
                    have HL196_4 := Aside0.mk (show Kd.V k28 28 _ w.heap.size _ _ ((rd_T28 t178 x5_1).f4) from Kd.V_mk ul196_4 ge196_4)
                    clear hva_ hvn_ hvc_ ge196_4 ul196_4
                    clear hcc196 hce196
                    have HR196_3 := Aside0.mk hi196_3
                    have HC196_3 := Aside0.mk hl196_3
                    clear hi196_3 hl196_3
                    have HR196_4 := Aside0.mk hi196_4
                    have HC196_4 := Aside0.mk hl196_4
                    clear hi196_4 hl196_4
                    replace p196 := eq_true p196
                    replace q196 := eq_true q196
                    have ea_ := Option.some.inj (hx181_3.symm.trans hx196_3)
                    injection ea_ with ea_ en_ ec_
                    subst ea_
                    subst ec_
                    clear en_
                    have ea_ := Option.some.inj (hx181_4.symm.trans hx196_4)
                    injection ea_ with ea_ en_ ec_
                    subst ea_
                    subst ec_
                    clear en_
                    have p197 : 0 ≤ (x5_1 : Int) := of_decide_eq_true (by first | (with_reducible assumption) | assumption)
                    have q197 : x5_1 < (t178.length : Int) := of_decide_eq_true (by first | (with_reducible assumption) | assumption)
                    obtain ⟨ad197, A197_3, c197_3, A197_4, c197_4, e197, hx197_0, hx197_1, hx197_2, hx197_3, hx197_4, hl197_3, hi197_3, hl197_4, hi197_4⟩ := at_T28 (Kd.N_reads' HO_4.out).2.2 x5_1 p197 q197
                    obtain rfl : ad181 = ad197 := (by injection e197)
                    obtain ⟨ce197, hce197, hMe197, hcc197⟩ := Kd.N_get HO_4.out z28 x5_1 p197 (by first | exact q197 | exact of_decide_eq_true (by first | (with_reducible assumption) | assumption) | (have e_ := (Kd.N_reads' HO_4.out).1; omega))
                    obtain ⟨ua197_3, uc197_3, ua197_4, uc197_4, rfl, ul197_3, ge197_3, ul197_4, ge197_4⟩ := k28_openF hMe197
                    have hv197_3 := hcc197 3 _ rfl
                    rw [add_field _ _ 3 (by omega)] at hv197_3
                    replace hv197_3 := Option.some.inj (hv197_3.symm.trans hx197_3)
                    injection hv197_3 with hva_ hvn_ hvc_
                    rw [hva_] at ge197_3
                    rw [hvc_] at ul197_3
                    have HL197_3 := Aside0.mk (show Kd.V (Kd.int .u8) 5 _ w.heap.size _ _ ((rd_T28 t178 x5_1).f3) from Kd.V_mk ul197_3 ge197_3)
                    clear hva_ hvn_ hvc_ ge197_3 ul197_3
                    have hv197_4 := hcc197 4 _ rfl
                    rw [add_field _ _ 4 (by omega)] at hv197_4
                    replace hv197_4 := Option.some.inj (hv197_4.symm.trans hx197_4)
                    injection hv197_4 with hva_ hvn_ hvc_
                    rw [hva_] at ge197_4
                    rw [hvc_] at ul197_4
                    have HL197_4 := Aside0.mk (show Kd.V k28 28 _ w.heap.size _ _ ((rd_T28 t178 x5_1).f4) from Kd.V_mk ul197_4 ge197_4)
                    clear hva_ hvn_ hvc_ ge197_4 ul197_4
                    clear hcc197 hce197
                    have HR197_3 := Aside0.mk hi197_3
                    have HC197_3 := Aside0.mk hl197_3
                    clear hi197_3 hl197_3
                    have HR197_4 := Aside0.mk hi197_4
                    have HC197_4 := Aside0.mk hl197_4
                    clear hi197_4 hl197_4
                    replace p197 := eq_true p197
                    replace q197 := eq_true q197
                    have ea_ := Option.some.inj (hx181_3.symm.trans hx197_3)
                    injection ea_ with ea_ en_ ec_
                    subst ea_
                    subst ec_
                    clear en_
                    have ea_ := Option.some.inj (hx181_4.symm.trans hx197_4)
                    injection ea_ with ea_ en_ ec_
                    subst ea_
                    subst ec_
                    clear en_
                    go_wp2_with (first | ((with_reducible refine gate_builtin (b := .append) (xs := #[.tmp 44, .tmp 50]) rfl ?_); at_builtin; refine Kd.R_append Kd.string (w0 := w) w.heap.size rfl (.tmp 44) (.tmp 50) 23 9 (.string ⟨#[]⟩) 16 rfl Tryd.underlying23 info9 rfl (by decide) (by omega) u3 x3_1 ((rd_T28 t178 x5_1).f1) [.string ((rd_T28 t178 x5_1).f1)] (fun _ => True) (fun _ => False) rfl rfl ?aP (fun _ hk => hk.elim) ?aF ?aO ?aB ?aS ?aL ?_; (case aP => exact rfl); (case aB => exact (by repeat (first | (with_reducible first | exact HB.out | apply below_alloc | apply pw_below_drewN | apply below_drew1 | refine below_set ?_ GE177.out) | exact HB.out))); (case aF => exact (fun _ _ => trivial)); (case aO => exact (by (with_reducible repeat (first | apply Kd.R_alloc | apply Kd.R_drewN | apply Kd.R_drew)); exact HO_3.out)); (case aS => exact (below_size (by repeat (first | (with_reducible first | exact HB.out | apply below_alloc | apply pw_below_drewN | apply below_drew1 | refine below_set ?_ GE177.out) | exact HB.out)))); (case aL => have := LMc21.out; omega); intro v199 w23 ho hb hg hat; rw [← Ny198.out] at ho; have n0_ := Aside0.mk (Kd.N_afterv (ok := (fun k_ => k_ ≠ gb177)) (by (with_reducible repeat (first | apply Kd.N_alloc | apply Kd.N_drewN | apply Kd.N_drew)); exact Kd.N_mono HO_4.out (fun _ hk => ⟨hk.2, hk.1⟩)) hg hat); have n1_ := Aside0.mk (blk_grown (g := gb177) (o := .cells #[.int .i64 a0_0, .string a0_1, .int .i64 a0_2, .slice A0_3 l0_3.length c0_3, .slice A0_4 l0_4.length c0_4] 28 (0, 0)) (by (with_reducible repeat (first | refine blk_drewN ?_ _ | refine blk_drew ?_ | refine blk_alloc ?_ _)); exact BK177.out) hg (Kd.R_ne HO_3.out BK177.out (by decide))); have n2_ := Aside0.mk (Kd.V_afterv (ok := (fun k_ => some k_ ≠ (.slice (some ad181) t178.length co22 : Value).ownBlock ∧ k_ ≠ gb177)) (by (with_reducible repeat (first | apply Kd.V_alloc | apply Kd.V_drewN | apply Kd.V_drew)); exact Kd.V_mono HL181_3.out (fun _ hk => ⟨⟨hk.2, hk.1.2⟩, hk.1.1⟩)) hg hat); have n3_ := Aside0.mk (Kd.V_afterv (ok := (fun k_ => some k_ ≠ (.slice (some ad181) t178.length co22 : Value).ownBlock ∧ k_ ≠ gb177)) (by (with_reducible repeat (first | apply Kd.V_alloc | apply Kd.V_drewN | apply Kd.V_drew)); exact Kd.V_mono HL181_4.out (fun _ hk => ⟨⟨hk.2, hk.1.2⟩, hk.1.1⟩)) hg hat); have n4_ := Aside0.mk (Kd.V_afterv (ok := (fun k_ => some k_ ≠ (.slice (some ad181) t178.length co22 : Value).ownBlock ∧ k_ ≠ gb177)) (by (with_reducible repeat (first | apply Kd.V_alloc | apply Kd.V_drewN | apply Kd.V_drew)); exact Kd.V_mono HL186_3.out (fun _ hk => ⟨⟨hk.2, hk.1.2⟩, hk.1.1⟩)) hg hat); have n5_ := Aside0.mk (Kd.V_afterv (ok := (fun k_ => some k_ ≠ (.slice (some ad181) t178.length co22 : Value).ownBlock ∧ k_ ≠ gb177)) (by (with_reducible repeat (first | apply Kd.V_alloc | apply Kd.V_drewN | apply Kd.V_drew)); exact Kd.V_mono HL186_4.out (fun _ hk => ⟨⟨hk.2, hk.1.2⟩, hk.1.1⟩)) hg hat); have n6_ := Aside0.mk (Kd.V_afterv (ok := (fun k_ => some k_ ≠ (.slice (some ad181) t178.length co22 : Value).ownBlock ∧ k_ ≠ gb177)) (by (with_reducible repeat (first | apply Kd.V_alloc | apply Kd.V_drewN | apply Kd.V_drew)); exact Kd.V_mono HL191_3.out (fun _ hk => ⟨⟨hk.2, hk.1.2⟩, hk.1.1⟩)) hg hat); have n7_ := Aside0.mk (Kd.V_afterv (ok := (fun k_ => some k_ ≠ (.slice (some ad181) t178.length co22 : Value).ownBlock ∧ k_ ≠ gb177)) (by (with_reducible repeat (first | apply Kd.V_alloc | apply Kd.V_drewN | apply Kd.V_drew)); exact Kd.V_mono HL191_4.out (fun _ hk => ⟨⟨hk.2, hk.1.2⟩, hk.1.1⟩)) hg hat); have n8_ := Aside0.mk (Kd.V_afterv (ok := (fun k_ => some k_ ≠ (.slice (some ad181) t178.length co22 : Value).ownBlock ∧ k_ ≠ gb177)) (by (with_reducible repeat (first | apply Kd.V_alloc | apply Kd.V_drewN | apply Kd.V_drew)); exact Kd.V_mono HL196_3.out (fun _ hk => ⟨⟨hk.2, hk.1.2⟩, hk.1.1⟩)) hg hat); have n9_ := Aside0.mk (Kd.V_afterv (ok := (fun k_ => some k_ ≠ (.slice (some ad181) t178.length co22 : Value).ownBlock ∧ k_ ≠ gb177)) (by (with_reducible repeat (first | apply Kd.V_alloc | apply Kd.V_drewN | apply Kd.V_drew)); exact Kd.V_mono HL196_4.out (fun _ hk => ⟨⟨hk.2, hk.1.2⟩, hk.1.1⟩)) hg hat); have n10_ := Aside0.mk (Kd.V_afterv (ok := (fun k_ => some k_ ≠ (.slice (some ad181) t178.length co22 : Value).ownBlock ∧ k_ ≠ gb177)) (by (with_reducible repeat (first | apply Kd.V_alloc | apply Kd.V_drewN | apply Kd.V_drew)); exact Kd.V_mono HL197_3.out (fun _ hk => ⟨⟨hk.2, hk.1.2⟩, hk.1.1⟩)) hg hat); have n11_ := Aside0.mk (Kd.V_afterv (ok := (fun k_ => some k_ ≠ (.slice (some ad181) t178.length co22 : Value).ownBlock ∧ k_ ≠ gb177)) (by (with_reducible repeat (first | apply Kd.V_alloc | apply Kd.V_drewN | apply Kd.V_drew)); exact Kd.V_mono HL197_4.out (fun _ hk => ⟨⟨hk.2, hk.1.2⟩, hk.1.1⟩)) hg hat); have n12_ := Aside0.mk (hb); have n13_ := Aside0.mk (ho); clear HO_4; clear BK177; clear HL181_3; clear HL181_4; clear HL186_3; clear HL186_4; clear HL191_3; clear HL191_4; clear HL196_3; clear HL196_4; clear HL197_3; clear HL197_4; clear HB; clear HO_3; have HO_4 := n0_; have BK177 := n1_; have HL181_3 := n2_; have HL181_4 := n3_; have HL186_3 := n4_; have HL186_4 := n5_; have HL191_3 := n6_; have HL191_4 := n7_; have HL196_3 := n8_; have HL196_4 := n9_; have HL197_3 := n10_; have HL197_4 := n11_; have HB := n12_; have HO200 := n13_; clear n0_ n1_ n2_ n3_ n4_ n5_ n6_ n7_ n8_ n9_ n10_ n11_ n12_ n13_; clear ho hb hg hat))
                    go_roundg k1
                    case measure => have := HK1.out; omega
                    case rel => exact ⟨(y198), (wrap64 (x5_1 + 1)), (by first | rfl | (simp; done) | (simp [*]; done)), H', ⟨by have := HK1.out; omega⟩, ⟨by (with_reducible repeat (first | apply Kd.R_alloc | apply Kd.R_drewN | apply Kd.R_drew)); exact HO200.out⟩, ⟨by (with_reducible repeat (first | apply Kd.N_alloc | apply Kd.N_drewN | apply Kd.N_drew)); exact Kd.N_mono HO_4.out (fun _ hk => ⟨hk.2, hk.1⟩)⟩, ⟨by (with_reducible repeat (first | refine blk_drewN ?_ _ | refine blk_drew ?_ | refine blk_alloc ?_ _)); exact BK177.out⟩, ⟨by repeat (first | (with_reducible first | exact HB.out | apply below_alloc | apply pw_below_drewN | apply below_drew1 | refine below_set ?_ GE177.out) | exact HB.out)⟩⟩
                  · rw [if_neg c21] at H
                    exact absurd H (by simp)
                · rw [if_neg c20] at H
                  have c20b0 : (((rd_T28 t178 x5_1).f0) == 17) = false := beq_eq_false_iff_ne.mpr c20
                  have c20b1 : (((rd_T28 t178 x5_1).f0) != 17) = true := bne_iff_ne.mpr c20
                  have H' := Aside0.mk H
                  clear H
                  obtain ⟨Ao24, co24, eo24⟩ := Kd.N_slice HO_4.out
                  subst eo24
                  have p181 : 0 ≤ (x5_1 : Int) := of_decide_eq_true (by first | (with_reducible assumption) | assumption)
                  have q181 : x5_1 < (t178.length : Int) := of_decide_eq_true (by first | (with_reducible assumption) | assumption)
                  obtain ⟨ad181, A181_3, c181_3, A181_4, c181_4, e181, hx181_0, hx181_1, hx181_2, hx181_3, hx181_4, hl181_3, hi181_3, hl181_4, hi181_4⟩ := at_T28 (Kd.N_reads' HO_4.out).2.2 x5_1 p181 q181
                  cases e181
                  obtain ⟨ce181, hce181, hMe181, hcc181⟩ := Kd.N_get HO_4.out z28 x5_1 p181 (by first | exact q181 | exact of_decide_eq_true (by first | (with_reducible assumption) | assumption) | (have e_ := (Kd.N_reads' HO_4.out).1; omega))
                  obtain ⟨ua181_3, uc181_3, ua181_4, uc181_4, rfl, ul181_3, ge181_3, ul181_4, ge181_4⟩ := k28_openF hMe181
                  have hv181_3 := hcc181 3 _ rfl
                  rw [add_field _ _ 3 (by omega)] at hv181_3
                  replace hv181_3 := Option.some.inj (hv181_3.symm.trans hx181_3)
                  injection hv181_3 with hva_ hvn_ hvc_
                  rw [hva_] at ge181_3
                  rw [hvc_] at ul181_3
                  have HL181_3 := Aside0.mk (show Kd.V (Kd.int .u8) 5 _ w.heap.size _ _ ((rd_T28 t178 x5_1).f3) from Kd.V_mk ul181_3 ge181_3)
                  clear hva_ hvn_ hvc_ ge181_3 ul181_3
                  have hv181_4 := hcc181 4 _ rfl
                  rw [add_field _ _ 4 (by omega)] at hv181_4
                  replace hv181_4 := Option.some.inj (hv181_4.symm.trans hx181_4)
                  injection hv181_4 with hva_ hvn_ hvc_
                  rw [hva_] at ge181_4
                  rw [hvc_] at ul181_4
                  have HL181_4 := Aside0.mk (show Kd.V k28 28 _ w.heap.size _ _ ((rd_T28 t178 x5_1).f4) from Kd.V_mk ul181_4 ge181_4)
                  clear hva_ hvn_ hvc_ ge181_4 ul181_4
                  clear hcc181 hce181
                  have HR181_3 := Aside0.mk hi181_3
                  have HC181_3 := Aside0.mk hl181_3
                  clear hi181_3 hl181_3
                  have HR181_4 := Aside0.mk hi181_4
                  have HC181_4 := Aside0.mk hl181_4
                  clear hi181_4 hl181_4
                  replace p181 := eq_true p181
                  replace q181 := eq_true q181
                  have p186 : 0 ≤ (x5_1 : Int) := of_decide_eq_true (by first | (with_reducible assumption) | assumption)
                  have q186 : x5_1 < (t178.length : Int) := of_decide_eq_true (by first | (with_reducible assumption) | assumption)
                  obtain ⟨ad186, A186_3, c186_3, A186_4, c186_4, e186, hx186_0, hx186_1, hx186_2, hx186_3, hx186_4, hl186_3, hi186_3, hl186_4, hi186_4⟩ := at_T28 (Kd.N_reads' HO_4.out).2.2 x5_1 p186 q186
                  obtain rfl : ad181 = ad186 := (by injection e186)
                  obtain ⟨ce186, hce186, hMe186, hcc186⟩ := Kd.N_get HO_4.out z28 x5_1 p186 (by first | exact q186 | exact of_decide_eq_true (by first | (with_reducible assumption) | assumption) | (have e_ := (Kd.N_reads' HO_4.out).1; omega))
                  obtain ⟨ua186_3, uc186_3, ua186_4, uc186_4, rfl, ul186_3, ge186_3, ul186_4, ge186_4⟩ := k28_openF hMe186
                  have hv186_3 := hcc186 3 _ rfl
                  rw [add_field _ _ 3 (by omega)] at hv186_3
                  replace hv186_3 := Option.some.inj (hv186_3.symm.trans hx186_3)
                  injection hv186_3 with hva_ hvn_ hvc_
                  rw [hva_] at ge186_3
                  rw [hvc_] at ul186_3
                  have HL186_3 := Aside0.mk (show Kd.V (Kd.int .u8) 5 _ w.heap.size _ _ ((rd_T28 t178 x5_1).f3) from Kd.V_mk ul186_3 ge186_3)
                  clear hva_ hvn_ hvc_ ge186_3 ul186_3
                  have hv186_4 := hcc186 4 _ rfl
                  rw [add_field _ _ 4 (by omega)] at hv186_4
                  replace hv186_4 := Option.some.inj (hv186_4.symm.trans hx186_4)
                  injection hv186_4 with hva_ hvn_ hvc_
                  rw [hva_] at ge186_4
                  rw [hvc_] at ul186_4
                  have HL186_4 := Aside0.mk (show Kd.V k28 28 _ w.heap.size _ _ ((rd_T28 t178 x5_1).f4) from Kd.V_mk ul186_4 ge186_4)
                  clear hva_ hvn_ hvc_ ge186_4 ul186_4
                  clear hcc186 hce186
                  have HR186_3 := Aside0.mk hi186_3
                  have HC186_3 := Aside0.mk hl186_3
                  clear hi186_3 hl186_3
                  have HR186_4 := Aside0.mk hi186_4
                  have HC186_4 := Aside0.mk hl186_4
                  clear hi186_4 hl186_4
                  replace p186 := eq_true p186
                  replace q186 := eq_true q186
                  have ea_ := Option.some.inj (hx181_3.symm.trans hx186_3)
                  injection ea_ with ea_ en_ ec_
                  subst ea_
                  subst ec_
                  clear en_
                  have ea_ := Option.some.inj (hx181_4.symm.trans hx186_4)
                  injection ea_ with ea_ en_ ec_
                  subst ea_
                  subst ec_
                  clear en_
                  have p191 : 0 ≤ (x5_1 : Int) := of_decide_eq_true (by first | (with_reducible assumption) | assumption)
                  have q191 : x5_1 < (t178.length : Int) := of_decide_eq_true (by first | (with_reducible assumption) | assumption)
                  obtain ⟨ad191, A191_3, c191_3, A191_4, c191_4, e191, hx191_0, hx191_1, hx191_2, hx191_3, hx191_4, hl191_3, hi191_3, hl191_4, hi191_4⟩ := at_T28 (Kd.N_reads' HO_4.out).2.2 x5_1 p191 q191
                  obtain rfl : ad181 = ad191 := (by injection e191)
                  obtain ⟨ce191, hce191, hMe191, hcc191⟩ := Kd.N_get HO_4.out z28 x5_1 p191 (by first | exact q191 | exact of_decide_eq_true (by first | (with_reducible assumption) | assumption) | (have e_ := (Kd.N_reads' HO_4.out).1; omega))
                  obtain ⟨ua191_3, uc191_3, ua191_4, uc191_4, rfl, ul191_3, ge191_3, ul191_4, ge191_4⟩ := k28_openF hMe191
                  have hv191_3 := hcc191 3 _ rfl
                  rw [add_field _ _ 3 (by omega)] at hv191_3
                  replace hv191_3 := Option.some.inj (hv191_3.symm.trans hx191_3)
                  injection hv191_3 with hva_ hvn_ hvc_
                  rw [hva_] at ge191_3
                  rw [hvc_] at ul191_3
                  have HL191_3 := Aside0.mk (show Kd.V (Kd.int .u8) 5 _ w.heap.size _ _ ((rd_T28 t178 x5_1).f3) from Kd.V_mk ul191_3 ge191_3)
                  clear hva_ hvn_ hvc_ ge191_3 ul191_3
                  have hv191_4 := hcc191 4 _ rfl
                  rw [add_field _ _ 4 (by omega)] at hv191_4
                  replace hv191_4 := Option.some.inj (hv191_4.symm.trans hx191_4)
                  injection hv191_4 with hva_ hvn_ hvc_
                  rw [hva_] at ge191_4
                  rw [hvc_] at ul191_4
                  have HL191_4 := Aside0.mk (show Kd.V k28 28 _ w.heap.size _ _ ((rd_T28 t178 x5_1).f4) from Kd.V_mk ul191_4 ge191_4)
                  clear hva_ hvn_ hvc_ ge191_4 ul191_4
                  clear hcc191 hce191
                  have HR191_3 := Aside0.mk hi191_3
                  have HC191_3 := Aside0.mk hl191_3
                  clear hi191_3 hl191_3
                  have HR191_4 := Aside0.mk hi191_4
                  have HC191_4 := Aside0.mk hl191_4
                  clear hi191_4 hl191_4
                  replace p191 := eq_true p191
                  replace q191 := eq_true q191
                  have ea_ := Option.some.inj (hx181_3.symm.trans hx191_3)
                  injection ea_ with ea_ en_ ec_
                  subst ea_
                  subst ec_
                  clear en_
                  have ea_ := Option.some.inj (hx181_4.symm.trans hx191_4)
                  injection ea_ with ea_ en_ ec_
                  subst ea_
                  subst ec_
                  clear en_
                  have p196 : 0 ≤ (x5_1 : Int) := of_decide_eq_true (by first | (with_reducible assumption) | assumption)
                  have q196 : x5_1 < (t178.length : Int) := of_decide_eq_true (by first | (with_reducible assumption) | assumption)
                  obtain ⟨ad196, A196_3, c196_3, A196_4, c196_4, e196, hx196_0, hx196_1, hx196_2, hx196_3, hx196_4, hl196_3, hi196_3, hl196_4, hi196_4⟩ := at_T28 (Kd.N_reads' HO_4.out).2.2 x5_1 p196 q196
                  obtain rfl : ad181 = ad196 := (by injection e196)
                  obtain ⟨ce196, hce196, hMe196, hcc196⟩ := Kd.N_get HO_4.out z28 x5_1 p196 (by first | exact q196 | exact of_decide_eq_true (by first | (with_reducible assumption) | assumption) | (have e_ := (Kd.N_reads' HO_4.out).1; omega))
                  obtain ⟨ua196_3, uc196_3, ua196_4, uc196_4, rfl, ul196_3, ge196_3, ul196_4, ge196_4⟩ := k28_openF hMe196
                  have hv196_3 := hcc196 3 _ rfl
                  rw [add_field _ _ 3 (by omega)] at hv196_3
                  replace hv196_3 := Option.some.inj (hv196_3.symm.trans hx196_3)
                  injection hv196_3 with hva_ hvn_ hvc_
                  rw [hva_] at ge196_3
                  rw [hvc_] at ul196_3
                  have HL196_3 := Aside0.mk (show Kd.V (Kd.int .u8) 5 _ w.heap.size _ _ ((rd_T28 t178 x5_1).f3) from Kd.V_mk ul196_3 ge196_3)
                  clear hva_ hvn_ hvc_ ge196_3 ul196_3
                  have hv196_4 := hcc196 4 _ rfl
                  rw [add_field _ _ 4 (by omega)] at hv196_4
                  replace hv196_4 := Option.some.inj (hv196_4.symm.trans hx196_4)
                  injection hv196_4 with hva_ hvn_ hvc_
                  rw [hva_] at ge196_4
                  rw [hvc_] at ul196_4
                  have HL196_4 := Aside0.mk (show Kd.V k28 28 _ w.heap.size _ _ ((rd_T28 t178 x5_1).f4) from Kd.V_mk ul196_4 ge196_4)
                  clear hva_ hvn_ hvc_ ge196_4 ul196_4
                  clear hcc196 hce196
                  have HR196_3 := Aside0.mk hi196_3
                  have HC196_3 := Aside0.mk hl196_3
                  clear hi196_3 hl196_3
                  have HR196_4 := Aside0.mk hi196_4
                  have HC196_4 := Aside0.mk hl196_4
                  clear hi196_4 hl196_4
                  replace p196 := eq_true p196
                  replace q196 := eq_true q196
                  have ea_ := Option.some.inj (hx181_3.symm.trans hx196_3)
                  injection ea_ with ea_ en_ ec_
                  subst ea_
                  subst ec_
                  clear en_
                  have ea_ := Option.some.inj (hx181_4.symm.trans hx196_4)
                  injection ea_ with ea_ en_ ec_
                  subst ea_
                  subst ec_
                  clear en_
                  go_wp2
                  go_roundg k1
                  case measure => have := HK1.out; omega
                  case rel => exact ⟨(x3_1), (wrap64 (x5_1 + 1)), (by first | rfl | (simp; done) | (simp [*]; done)), H', ⟨by have := HK1.out; omega⟩, ⟨by (with_reducible repeat (first | apply Kd.R_alloc | apply Kd.R_drewN | apply Kd.R_drew)); exact HO_3.out⟩, ⟨by (with_reducible repeat (first | apply Kd.N_alloc | apply Kd.N_drewN | apply Kd.N_drew)); exact HO_4.out⟩, ⟨by (with_reducible repeat (first | refine blk_drewN ?_ _ | refine blk_drew ?_ | refine blk_alloc ?_ _)); exact BK177.out⟩, ⟨by repeat (first | (with_reducible first | exact HB.out | apply below_alloc | apply pw_below_drewN | apply below_drew1 | refine below_set ?_ GE177.out) | exact HB.out)⟩⟩
        · rw [if_neg c7] at H
          exact absurd H (by simp)
      · rw [if_neg c6] at H
        have c6b0 : decide (x5_1 < (t178.length : Int)) = false := decide_eq_false c6
        clear c6
        obtain rfl := Option.some.inj H
        obtain ⟨Ao25, co25, eo25⟩ := Kd.N_slice HO_4.out
        subst eo25
        go_wp2
        go_ret
        exact ⟨_, by first | rfl | (simp [errW_none, errW_some] <;> rfl) | (simp [*, errW_none, errW_some] <;> rfl), by (with_reducible repeat (first | apply Kd.R_alloc | apply Kd.R_drewN | apply Kd.R_drew)); exact HO_3.out, by repeat (first | (with_reducible first | exact HB.out | apply below_alloc | apply pw_below_drewN | apply below_drew1 | refine below_set ?_ GE177.out) | exact HB.out)⟩

end Go.Proofs.YtejidddjkngoiaaDoor.PGram
