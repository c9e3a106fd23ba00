-- Written by a turned copy of the kit's printer (wip/patch_print.py), in this project; not trusted: Lean checks it.
import Derived.Test.YtgkbmdlelcbmhaaDoorPLexx0
import Derived.Test.YtgkbmdlelcbmhaaDoorPLexx3
import Derived.Test.YtgkbmdlelcbmhaaDoorPLexx4
namespace Go.Proofs.YtgkbmdlelcbmhaaDoor.PLex
open Go.RowKit Go.Proofs.YtgkbmdlelcbmhaaDoorW.PrintWords Go.Proofs.YtgkbmdlelcbmhaaDoorW.PrintLast Go.Proofs.YtgkbmdlelcbmhaaDoorW.PrintMore
attribute [local go_sem] max2_int min2_int max_two min_two max_three min_three max_four min_four   -- for this text's walks alone
set_option linter.unusedVariables false
set_option linter.unusedSimpArgs false

/-! ### rookeryref15_token: function 34 -/
mutual
def rookeryref15_token.j1 : Nat → ByteArray → Int → Int → Int → Option (Int × ByteArray × Int × List Int × Int × Int × Int)
  | 0, _, _, _, _ => none
  | k + 1, x0, x1, x7, x8 => if 0 ≤ x1 then (if x1 ≤ x8 then (if x8 ≤ (x0.size : Int) then (if (wrap64 (x8 - x1)) > 32 then (some (0, (⟨#[]⟩ : ByteArray), 0, ([] : List Int), 0, x8, 153)) else ((rookeryref15_between.f x7 97 122).bind fun t216 => (if t216 = true then ((rookeryref15_Word.f (x0.extract (x1 : Int).toNat (x8 : Int).toNat)).bind fun t217 => (if t217 = true then (some (6, x0.extract (x1 : Int).toNat (x8 : Int).toNat, 0, ([] : List Int), x1, x8, 0)) else (some (2, x0.extract (x1 : Int).toNat (x8 : Int).toNat, 0, ([] : List Int), x1, x8, 0)))) else (some (3, x0.extract (x1 : Int).toNat (x8 : Int).toNat, 0, ([] : List Int), x1, x8, 0))))) else (none)) else (none)) else (none)
def rookeryref15_token.l0 : Nat → ByteArray → Int → Int → Int → Option (Int × ByteArray × Int × List Int × Int × Int × Int)
  | 0, _, _, _, _ => none
  | k + 1, x0, x1, x7, x8 => if x8 < (x0.size : Int) then (if 0 ≤ x8 then ((rookeryref15_name.f (bt x0 x8)).bind fun t214 => (if t214 = true then (rookeryref15_token.l0 k x0 x1 x7 (wrap64 (x8 + 1))) else (rookeryref15_token.j1 k x0 x1 x7 x8))) else (none)) else (rookeryref15_token.j1 k x0 x1 x7 x8)
def rookeryref15_token.j2 : Nat → Int → Int → ByteArray → Option (Int × ByteArray × Int × List Int × Int × Int × Int)
  | 0, _, _, _ => none
  | k + 1, x1, x7, x10 => if x10.toList = ([45, 62] : List UInt8) then (rookeryref15_token.j3 k x1 x7 x10 true) else (if x10.toList = ([61, 61] : List UInt8) then (rookeryref15_token.j3 k x1 x7 x10 true) else (if x10.toList = ([47, 61] : List UInt8) then (rookeryref15_token.j3 k x1 x7 x10 true) else (if x10.toList = ([61, 60] : List UInt8) then (rookeryref15_token.j3 k x1 x7 x10 true) else (rookeryref15_token.j3 k x1 x7 x10 (x10.toList == ([62, 61] : List UInt8))))))
def rookeryref15_token.j3 : Nat → Int → Int → ByteArray → Bool → Option (Int × ByteArray × Int × List Int × Int × Int × Int)
  | 0, _, _, _, _ => none
  | k + 1, x1, x7, x10, x94 => if x94 = true then (some (5, x10, 0, ([] : List Int), x1, wrap64 (x1 + 2), 0)) else (rookeryref15_token.l1 k x1 x7 0)
def rookeryref15_token.l1 : Nat → Int → Int → Int → Option (Int × ByteArray × Int × List Int × Int × Int × Int)
  | 0, _, _, _ => none
  | k + 1, x1, x7, x11 => if x11 < 17 then (if 0 ≤ x11 then (if (bt (⟨#[61, 60, 62, 43, 45, 42, 47, 33, 40, 41, 123, 125, 91, 93, 44, 59, 46]⟩ : ByteArray) x11) = x7 then (if x11 ≤ (wrap64 (x11 + 1)) then (if (wrap64 (x11 + 1)) ≤ 17 then (some (5, (⟨#[61, 60, 62, 43, 45, 42, 47, 33, 40, 41, 123, 125, 91, 93, 44, 59, 46]⟩ : ByteArray).extract (x11 : Int).toNat ((wrap64 (x11 + 1)) : Int).toNat, 0, ([] : List Int), x1, wrap64 (x1 + 1), 0)) else (none)) else (none)) else (rookeryref15_token.l1 k x1 x7 (wrap64 (x11 + 1)))) else (none)) else (some (0, (⟨#[]⟩ : ByteArray), 0, ([] : List Int), 0, x1, 151))
end
def rookeryref15_token.f (k : Nat) (a0 : ByteArray) (a1 : Int) : Option (Int × ByteArray × Int × List Int × Int × Int × Int) := if 0 ≤ a1 then (if a1 < (a0.size : Int) then ((rookeryref15_between.f (bt a0 a1) 48 57).bind fun t194 => (if t194 = true then ((rookeryref15_number.f k a0 a1).bind fun bt195 => (some (bt195.1, bt195.2.1, bt195.2.2.1, bt195.2.2.2.1, bt195.2.2.2.2.1, bt195.2.2.2.2.2.1, bt195.2.2.2.2.2.2))) else (if (bt a0 a1) = 34 then ((rookeryref15_text.f k a0 a1).bind fun bt204 => (some (bt204.1, bt204.2.1, bt204.2.2.1, bt204.2.2.2.1, bt204.2.2.2.2.1, bt204.2.2.2.2.2.1, bt204.2.2.2.2.2.2))) else ((rookeryref15_name.f (bt a0 a1)).bind fun t213 => (if t213 = true then (rookeryref15_token.l0 k a0 a1 (bt a0 a1) a1) else (if (wrap64 (a1 + 1)) < (a0.size : Int) then (if a1 ≤ (wrap64 (a1 + 2)) then (if (wrap64 (a1 + 2)) ≤ (a0.size : Int) then (rookeryref15_token.j2 k a1 (bt a0 a1) (a0.extract (a1 : Int).toNat ((wrap64 (a1 + 2)) : Int).toNat)) else (none)) else (none)) else (rookeryref15_token.j2 k a1 (bt a0 a1) (⟨#[]⟩ : ByteArray)))))))) else (none)) else (none)
theorem rookeryref15_token.mono_l : ∀ k, (∀ y0 y1 y2 y3, LeO (rookeryref15_token.j1 k y0 y1 y2 y3) (rookeryref15_token.j1 (k + 1) y0 y1 y2 y3)) ∧ (∀ y0 y1 y2 y3, LeO (rookeryref15_token.l0 k y0 y1 y2 y3) (rookeryref15_token.l0 (k + 1) y0 y1 y2 y3)) ∧ (∀ y0 y1 y2, LeO (rookeryref15_token.j2 k y0 y1 y2) (rookeryref15_token.j2 (k + 1) y0 y1 y2)) ∧ (∀ y0 y1 y2 y3, LeO (rookeryref15_token.j3 k y0 y1 y2 y3) (rookeryref15_token.j3 (k + 1) y0 y1 y2 y3)) ∧ (∀ y0 y1 y2, LeO (rookeryref15_token.l1 k y0 y1 y2) (rookeryref15_token.l1 (k + 1) y0 y1 y2))
  | 0 => ⟨fun _ _ _ _ r h => by simp [rookeryref15_token.j1] at h, fun _ _ _ _ r h => by simp [rookeryref15_token.l0] at h, fun _ _ _ r h => by simp [rookeryref15_token.j2] at h, fun _ _ _ _ r h => by simp [rookeryref15_token.j3] at h, fun _ _ _ r h => by simp [rookeryref15_token.l1] at h⟩
  | k + 1 => by
    obtain ⟨ih0, ih1, ih2, ih3, ih4⟩ := rookeryref15_token.mono_l k
    refine ⟨?_, ?_, ?_, ?_, ?_⟩
    · intro y0 y1 y2 y3
      unfold rookeryref15_token.j1
      repeat' first
      | (with_reducible exact ih0 _ _ _ _)
      | (with_reducible exact ih1 _ _ _ _)
      | (with_reducible exact ih2 _ _ _)
      | (with_reducible exact ih3 _ _ _ _)
      | (with_reducible exact ih4 _ _ _)
      | (with_reducible exact rookeryref15_number.mono _ _ _)
      | (with_reducible exact rookeryref15_text.mono _ _ _)
      | (with_reducible exact LeO.refl _)
      | (with_reducible exact LeO.none _)
      | (with_reducible refine LeO.ite ?_ ?_)
      | (with_reducible refine LeO.bind ?_ (fun _ => ?_))
      | exact ih0 _ _ _ _
      | exact ih1 _ _ _ _
      | exact ih2 _ _ _
      | exact ih3 _ _ _ _
      | exact ih4 _ _ _
      | exact rookeryref15_number.mono _ _ _
      | exact rookeryref15_text.mono _ _ _
      | exact LeO.none _
      | refine LeO.ite ?_ ?_
      | refine LeO.bind ?_ (fun _ => ?_)
    · intro y0 y1 y2 y3
      unfold rookeryref15_token.l0
      repeat' first
      | (with_reducible exact ih0 _ _ _ _)
      | (with_reducible exact ih1 _ _ _ _)
      | (with_reducible exact ih2 _ _ _)
      | (with_reducible exact ih3 _ _ _ _)
      | (with_reducible exact ih4 _ _ _)
      | (with_reducible exact rookeryref15_number.mono _ _ _)
      | (with_reducible exact rookeryref15_text.mono _ _ _)
      | (with_reducible exact LeO.refl _)
      | (with_reducible exact LeO.none _)
      | (with_reducible refine LeO.ite ?_ ?_)
      | (with_reducible refine LeO.bind ?_ (fun _ => ?_))
      | exact ih0 _ _ _ _
      | exact ih1 _ _ _ _
      | exact ih2 _ _ _
      | exact ih3 _ _ _ _
      | exact ih4 _ _ _
      | exact rookeryref15_number.mono _ _ _
      | exact rookeryref15_text.mono _ _ _
      | exact LeO.none _
      | refine LeO.ite ?_ ?_
      | refine LeO.bind ?_ (fun _ => ?_)
    · intro y0 y1 y2
      unfold rookeryref15_token.j2
      repeat' first
      | (with_reducible exact ih0 _ _ _ _)
      | (with_reducible exact ih1 _ _ _ _)
      | (with_reducible exact ih2 _ _ _)
      | (with_reducible exact ih3 _ _ _ _)
      | (with_reducible exact ih4 _ _ _)
      | (with_reducible exact rookeryref15_number.mono _ _ _)
      | (with_reducible exact rookeryref15_text.mono _ _ _)
      | (with_reducible exact LeO.refl _)
      | (with_reducible exact LeO.none _)
      | (with_reducible refine LeO.ite ?_ ?_)
      | (with_reducible refine LeO.bind ?_ (fun _ => ?_))
      | exact ih0 _ _ _ _
      | exact ih1 _ _ _ _
      | exact ih2 _ _ _
      | exact ih3 _ _ _ _
      | exact ih4 _ _ _
      | exact rookeryref15_number.mono _ _ _
      | exact rookeryref15_text.mono _ _ _
      | exact LeO.none _
      | refine LeO.ite ?_ ?_
      | refine LeO.bind ?_ (fun _ => ?_)
    · intro y0 y1 y2 y3
      unfold rookeryref15_token.j3
      repeat' first
      | (with_reducible exact ih0 _ _ _ _)
      | (with_reducible exact ih1 _ _ _ _)
      | (with_reducible exact ih2 _ _ _)
      | (with_reducible exact ih3 _ _ _ _)
      | (with_reducible exact ih4 _ _ _)
      | (with_reducible exact rookeryref15_number.mono _ _ _)
      | (with_reducible exact rookeryref15_text.mono _ _ _)
      | (with_reducible exact LeO.refl _)
      | (with_reducible exact LeO.none _)
      | (with_reducible refine LeO.ite ?_ ?_)
      | (with_reducible refine LeO.bind ?_ (fun _ => ?_))
      | exact ih0 _ _ _ _
      | exact ih1 _ _ _ _
      | exact ih2 _ _ _
      | exact ih3 _ _ _ _
      | exact ih4 _ _ _
      | exact rookeryref15_number.mono _ _ _
      | exact rookeryref15_text.mono _ _ _
      | exact LeO.none _
      | refine LeO.ite ?_ ?_
      | refine LeO.bind ?_ (fun _ => ?_)
    · intro y0 y1 y2
      unfold rookeryref15_token.l1
      repeat' first
      | (with_reducible exact ih0 _ _ _ _)
      | (with_reducible exact ih1 _ _ _ _)
      | (with_reducible exact ih2 _ _ _)
      | (with_reducible exact ih3 _ _ _ _)
      | (with_reducible exact ih4 _ _ _)
      | (with_reducible exact rookeryref15_number.mono _ _ _)
      | (with_reducible exact rookeryref15_text.mono _ _ _)
      | (with_reducible exact LeO.refl _)
      | (with_reducible exact LeO.none _)
      | (with_reducible refine LeO.ite ?_ ?_)
      | (with_reducible refine LeO.bind ?_ (fun _ => ?_))
      | exact ih0 _ _ _ _
      | exact ih1 _ _ _ _
      | exact ih2 _ _ _
      | exact ih3 _ _ _ _
      | exact ih4 _ _ _
      | exact rookeryref15_number.mono _ _ _
      | exact rookeryref15_text.mono _ _ _
      | exact LeO.none _
      | refine LeO.ite ?_ ?_
      | refine LeO.bind ?_ (fun _ => ?_)
theorem rookeryref15_token.mono : ∀ a0 a1 k, LeO (rookeryref15_token.f k a0 a1) (rookeryref15_token.f (k + 1) a0 a1) := by
  intro a0 a1 k
  obtain ⟨ih0, ih1, ih2, ih3, ih4⟩ := rookeryref15_token.mono_l k
  unfold rookeryref15_token.f
  repeat' first
      | (with_reducible exact ih0 _ _ _ _)
      | (with_reducible exact ih1 _ _ _ _)
      | (with_reducible exact ih2 _ _ _)
      | (with_reducible exact ih3 _ _ _ _)
      | (with_reducible exact ih4 _ _ _)
      | (with_reducible exact rookeryref15_number.mono _ _ _)
      | (with_reducible exact rookeryref15_text.mono _ _ _)
      | (with_reducible exact LeO.refl _)
      | (with_reducible exact LeO.none _)
      | (with_reducible refine LeO.ite ?_ ?_)
      | (with_reducible refine LeO.bind ?_ (fun _ => ?_))
      | exact ih0 _ _ _ _
      | exact ih1 _ _ _ _
      | exact ih2 _ _ _
      | exact ih3 _ _ _ _
      | exact ih4 _ _ _
      | exact rookeryref15_number.mono _ _ _
      | exact rookeryref15_text.mono _ _ _
      | exact LeO.none _
      | refine LeO.ite ?_ ?_
      | refine LeO.bind ?_ (fun _ => ?_)
set_option maxHeartbeats 8000000 in
set_option maxRecDepth 100000 in
theorem rookeryref15_token.calls (k : Nat) (a0 : ByteArray) (a1 : Int) (r1 : Int) (r2 : ByteArray) (r3 : Int) (r4 : List Int) (r5 : Int) (r6 : Int) (r7 : Int) (w : World) (h : rookeryref15_token.f k a0 a1 = some (r1, r2, r3, r4, r5, r6, r7)) :
    Calls Tryd.prog 34 #[.string a0, .int .i64 a1] w fun e w' => ∃ v3_ : Value, e = .returned (.tuple #[.agg #[.int .i64 r1, .string r2, .int .i64 r3, v3_, .int .i64 r5], .int .i64 r6, .int .i64 r7]) ∧ Kd.R (Kd.int .u8) 5 w' w.heap.size (fun _ => True) v3_ r4 ∧ Below w.heap.size w w' := by
  have hu33 := Tryd.underlying33
  have HB := Aside0.mk (Below.refl w.heap.size w)
  have H : (if 0 ≤ a1 then (if a1 < (a0.size : Int) then ((rookeryref15_between.f (bt a0 a1) 48 57).bind fun t194 => (if t194 = true then ((rookeryref15_number.f k a0 a1).bind fun bt195 => (some (bt195.1, bt195.2.1, bt195.2.2.1, bt195.2.2.2.1, bt195.2.2.2.2.1, bt195.2.2.2.2.2.1, bt195.2.2.2.2.2.2))) else (if (bt a0 a1) = 34 then ((rookeryref15_text.f k a0 a1).bind fun bt204 => (some (bt204.1, bt204.2.1, bt204.2.2.1, bt204.2.2.2.1, bt204.2.2.2.2.1, bt204.2.2.2.2.2.1, bt204.2.2.2.2.2.2))) else ((rookeryref15_name.f (bt a0 a1)).bind fun t213 => (if t213 = true then (rookeryref15_token.l0 k a0 a1 (bt a0 a1) a1) else (if (wrap64 (a1 + 1)) < (a0.size : Int) then (if a1 ≤ (wrap64 (a1 + 2)) then (if (wrap64 (a1 + 2)) ≤ (a0.size : Int) then (rookeryref15_token.j2 k a1 (bt a0 a1) (a0.extract (a1 : Int).toNat ((wrap64 (a1 + 2)) : Int).toNat)) else (none)) else (none)) else (rookeryref15_token.j2 k a1 (bt a0 a1) (⟨#[]⟩ : ByteArray)))))))) else (none)) else (none)) = some (r1, r2, r3, r4, r5, r6, r7) := h
  clear h
  by_cases c3 : 0 ≤ a1
  · rw [if_pos c3] at H
    have c3b0 : decide (0 ≤ a1) = true := decide_eq_true c3
    clear c3
    by_cases c4 : a1 < (a0.size : Int)
    · rw [if_pos c4] at H
      have c4b0 : decide (a1 < (a0.size : Int)) = true := decide_eq_true c4
      clear c4
      replace H := Option.bind_eq_some_iff.mp H
      obtain ⟨t194, A60, H⟩ := H
      replace H : (if t194 = true then ((rookeryref15_number.f k a0 a1).bind fun bt195 => (some (bt195.1, bt195.2.1, bt195.2.2.1, bt195.2.2.2.1, bt195.2.2.2.2.1, bt195.2.2.2.2.2.1, bt195.2.2.2.2.2.2))) else (if (bt a0 a1) = 34 then ((rookeryref15_text.f k a0 a1).bind fun bt204 => (some (bt204.1, bt204.2.1, bt204.2.2.1, bt204.2.2.2.1, bt204.2.2.2.2.1, bt204.2.2.2.2.2.1, bt204.2.2.2.2.2.2))) else ((rookeryref15_name.f (bt a0 a1)).bind fun t213 => (if t213 = true then (rookeryref15_token.l0 k a0 a1 (bt a0 a1) a1) else (if (wrap64 (a1 + 1)) < (a0.size : Int) then (if a1 ≤ (wrap64 (a1 + 2)) then (if (wrap64 (a1 + 2)) ≤ (a0.size : Int) then (rookeryref15_token.j2 k a1 (bt a0 a1) (a0.extract (a1 : Int).toNat ((wrap64 (a1 + 2)) : Int).toNat)) else (none)) else (none)) else (rookeryref15_token.j2 k a1 (bt a0 a1) (⟨#[]⟩ : ByteArray))))))) = some (r1, r2, r3, r4, r5, r6, r7) := H
      have A6 := Aside0.mk A60
      clear A60
      by_cases c7 : t194 = true
      · subst c7
        have H1 : ((rookeryref15_number.f k a0 a1).bind fun bt195 => (some (bt195.1, bt195.2.1, bt195.2.2.1, bt195.2.2.2.1, bt195.2.2.2.2.1, bt195.2.2.2.2.2.1, bt195.2.2.2.2.2.2))) = some (r1, r2, r3, r4, r5, r6, r7) := by rw [if_pos rfl] at H; exact H
        clear H
        have H := H1
        clear H1
        replace H := Option.bind_eq_some_iff.mp H
        obtain ⟨⟨t195, t196, t197, t198, t201, t202, t203⟩, A80, H⟩ := H
        replace H : (some (t195, t196, t197, t198, t201, t202, t203)) = some (r1, r2, r3, r4, r5, r6, r7) := H
        have A8 := Aside0.mk A80
        clear A80
        simp only [Option.some.injEq, Prod.mk.injEq] at H
        obtain ⟨rfl, rfl, rfl, rfl, rfl, rfl, rfl⟩ := H
        go_enter Tryd.func34, Tryd.ntmps34
        go_wp2_with (first | ((with_reducible refine gate_dst (N := 4) rfl ?_); refine box_event ?hg (N := 4) ?hd (cs := #[.int .i64 0, .string (⟨#[]⟩ : ByteArray), .int .i64 0, .slice none 0 0, .int .i64 0]) (t := 33) ?hr ?_; (case hd => rfl); (case hg => rfl); (case hr => first | (go_simp; done) | (go_simp; rfl)); intro gb193 hg w9 hbox hb; have n0_ := Aside0.mk (below_step (by repeat (first | (with_reducible first | exact HB.out | apply below_alloc | apply pw_below_drewN | apply below_drew1) | exact HB.out)) hb); have n1_ := Aside0.mk (hbox); have n2_ := Aside0.mk ((by rw [hg]; exact (below_size (by repeat (first | (with_reducible first | exact HB.out | apply below_alloc | apply pw_below_drewN | apply below_drew1) | exact HB.out))) : w.heap.size ≤ gb193)); have n3_ := Aside0.mk ((by rw [hg]; exact (below_size (by repeat (first | (with_reducible first | exact HB.out | apply below_alloc | apply pw_below_drewN | apply below_drew1) | exact HB.out))) : w.heap.size ≤ gb193)); clear HB; have HB := n0_; have BK193 := n1_; have GW193 := n2_; have GE193 := n3_; clear n0_ n1_ n2_ n3_; clear hb hbox hg; have p5 : 0 ≤ (a1 : Int) := of_decide_eq_true (by first | (with_reducible assumption) | assumption); have q5 : a1 < (a0.size : Int) := of_decide_eq_true (by first | (with_reducible assumption) | assumption); have hx5 := bt_at a0 a1; replace p5 := eq_true p5; replace q5 := eq_true q5) | ((with_reducible refine gate_callee (f := 40) rfl ?_); refine goesL_ (some 16) rfl rfl Tryd.func40 (by kernel_rfl) rfl #[.int .u8 (bt a0 a1), .int .u8 48, .int .u8 57] rfl (by (try simp only [List.map_toArray, List.map_cons, List.map_nil]); first | done | rfl | (simp only [List.length_drop, List.length_take]; rfl)) ?_; (with_reducible refine (rookeryref15_between.calls (bt a0 a1) 48 57 true _ A6.out).mono ?_); rintro e w' ⟨rfl, ⟨nd, rfl⟩⟩; refine ⟨_, rfl, ?_⟩; (try (rw [drewN_self w9]; generalize hq_ : World.drewN w9 _ = w9; have n0_ : Aside0 (w9.heap[gb193]? = some (.cells #[.int .i64 0, .string (⟨#[]⟩ : ByteArray), .int .i64 0, .slice none 0 0, .int .i64 0] 33 (0, 0))) := ⟨by rw [← hq_]; exact (by (with_reducible repeat (first | refine blk_drewN ?_ _ | refine blk_drew ?_ | refine blk_alloc ?_ _)); exact BK193.out)⟩; have n1_ : Aside0 (Below w.heap.size w w9) := ⟨by rw [← hq_]; exact (by repeat (first | (with_reducible first | exact HB.out | apply below_alloc | apply pw_below_drewN | apply below_drew1 | refine below_set ?_ GE193.out) | exact HB.out))⟩; clear BK193 HB hq_; have BK193 := n0_; have HB := n1_; clear n0_ n1_))) | ((with_reducible refine gate_callee (f := 57) rfl ?_); refine goesL_ (some 19) rfl rfl Tryd.func57 (by kernel_rfl) rfl #[.string a0, .int .i64 a1] rfl (by (try simp only [List.map_toArray, List.map_cons, List.map_nil]); first | done | rfl | (simp only [List.length_drop, List.length_take]; rfl)) ?_; (with_reducible refine (rookeryref15_number.calls k a0 a1 t195 t196 t197 t198 t201 t202 t203 _ A8.out).mono ?_); rintro e w10 ⟨v199, rfl, ho0, hb⟩; refine ⟨_, rfl, ?_⟩; have n0_ := Aside0.mk (Kd.R_lower ho0 (below_size (by repeat (first | (with_reducible first | exact HB.out | apply below_alloc | apply pw_below_drewN | apply below_drew1 | refine below_set ?_ GE193.out) | exact HB.out)))); have n1_ := Aside0.mk (blk_below (g := gb193) (o := .cells #[.int .i64 0, .string (⟨#[]⟩ : ByteArray), .int .i64 0, .slice none 0 0, .int .i64 0] 33 (0, 0)) (by (with_reducible repeat (first | refine blk_drewN ?_ _ | refine blk_drew ?_ | refine blk_alloc ?_ _)); exact BK193.out) hb); have n2_ := Aside0.mk (below_step (by repeat (first | (with_reducible first | exact HB.out | apply below_alloc | apply pw_below_drewN | apply below_drew1 | refine below_set ?_ GE193.out) | exact HB.out)) hb); clear BK193; clear HB; have HO200 := n0_; have BK193 := n1_; have HB := n2_; clear n0_ n1_ n2_; (try clear hb); (try clear hb2); (try clear hk); (try clear hi); (try clear ho0); have hcz11_0 : w10.cell? ⟨gb193, 0, none⟩ = some (.int .i64 0) := (blk_cell BK193.out 0).trans rfl; have hcz11_1 : w10.cell? ⟨gb193, 1, none⟩ = some (.string (⟨#[]⟩ : ByteArray)) := (blk_cell BK193.out 1).trans rfl; have hcz11_2 : w10.cell? ⟨gb193, 2, none⟩ = some (.int .i64 0) := (blk_cell BK193.out 2).trans rfl; have hcz11_3 : w10.cell? ⟨gb193, 3, none⟩ = some (.slice none 0 0) := (blk_cell BK193.out 3).trans rfl; have hcz11_4 : w10.cell? ⟨gb193, 4, none⟩ = some (.int .i64 0) := (blk_cell BK193.out 4).trans rfl; have hfz11_0 := blk_frozen BK193.out 0; have hfz11_1 := blk_frozen BK193.out 1; have hfz11_2 := blk_frozen BK193.out 2; have hfz11_3 := blk_frozen BK193.out 3; have hfz11_4 := blk_frozen BK193.out 4; obtain ⟨Ao12, co12, eo12⟩ := Kd.R_slice HO200.out; subst eo12))
        refine bodyPost_ret (results_ctt rfl _ _ gb193 33 #[.int .i64 t195, .string t196, .int .i64 t197, .slice Ao12 t198.length co12, .int .i64 t201] (0, 0) _ rfl (by (with_reducible repeat (first | refine blk_drewN ?_ _ | refine blk_drew ?_ | refine blk_alloc ?_ _)); refine blk_put (cs := #[.int .i64 t195, .string t196, .int .i64 t197, .slice Ao12 t198.length co12, .int .i64 0]) ?_ 4 _ rfl; (with_reducible repeat (first | refine blk_drewN ?_ _ | refine blk_drew ?_ | refine blk_alloc ?_ _)); refine blk_put (cs := #[.int .i64 t195, .string t196, .int .i64 t197, .slice none 0 0, .int .i64 0]) ?_ 3 _ rfl; (with_reducible repeat (first | refine blk_drewN ?_ _ | refine blk_drew ?_ | refine blk_alloc ?_ _)); refine blk_put (cs := #[.int .i64 t195, .string t196, .int .i64 0, .slice none 0 0, .int .i64 0]) ?_ 2 _ rfl; (with_reducible repeat (first | refine blk_drewN ?_ _ | refine blk_drew ?_ | refine blk_alloc ?_ _)); refine blk_put (cs := #[.int .i64 t195, .string (⟨#[]⟩ : ByteArray), .int .i64 0, .slice none 0 0, .int .i64 0]) ?_ 1 _ rfl; (with_reducible repeat (first | refine blk_drewN ?_ _ | refine blk_drew ?_ | refine blk_alloc ?_ _)); refine blk_put (cs := #[.int .i64 0, .string (⟨#[]⟩ : ByteArray), .int .i64 0, .slice none 0 0, .int .i64 0]) ?_ 0 _ rfl; (with_reducible repeat (first | refine blk_drewN ?_ _ | refine blk_drew ?_ | refine blk_alloc ?_ _)); exact BK193.out) Tryd.underlying33 rfl (by kernel_rfl)) rfl ?_
        exact ⟨_, by first | rfl | (simp [errW_none, errW_some] <;> rfl) | (simp [*, errW_none, errW_some] <;> rfl), by (with_reducible repeat (first | apply Kd.R_alloc | apply Kd.R_drewN | apply Kd.R_drew)); exact Kd.R_mono (Kd.R_far (p := ⟨gb193, 4, none⟩) (Kd.R_far (p := ⟨gb193, 3, none⟩) (Kd.R_far (p := ⟨gb193, 2, none⟩) (Kd.R_far (p := ⟨gb193, 1, none⟩) (Kd.R_far (p := ⟨gb193, 0, none⟩) (Kd.R_types HO200.out BK193.out (by decide)) (fun _ hk => hk.2) (.int .i64 t195)) (fun _ hk => hk.2) (.string t196)) (fun _ hk => hk.2) (.int .i64 t197)) (fun _ hk => hk.2) (.slice Ao12 t198.length co12)) (fun _ hk => hk.2) (.int .i64 t201)) (fun _ hk => trivial), by repeat (first | (with_reducible first | exact HB.out | apply below_alloc | apply pw_below_drewN | apply below_drew1 | refine below_set ?_ GE193.out) | exact HB.out)⟩
      · replace c7 := Bool.eq_false_iff.mpr c7
        subst c7
        have H1 : (if (bt a0 a1) = 34 then ((rookeryref15_text.f k a0 a1).bind fun bt204 => (some (bt204.1, bt204.2.1, bt204.2.2.1, bt204.2.2.2.1, bt204.2.2.2.2.1, bt204.2.2.2.2.2.1, bt204.2.2.2.2.2.2))) else ((rookeryref15_name.f (bt a0 a1)).bind fun t213 => (if t213 = true then (rookeryref15_token.l0 k a0 a1 (bt a0 a1) a1) else (if (wrap64 (a1 + 1)) < (a0.size : Int) then (if a1 ≤ (wrap64 (a1 + 2)) then (if (wrap64 (a1 + 2)) ≤ (a0.size : Int) then (rookeryref15_token.j2 k a1 (bt a0 a1) (a0.extract (a1 : Int).toNat ((wrap64 (a1 + 2)) : Int).toNat)) else (none)) else (none)) else (rookeryref15_token.j2 k a1 (bt a0 a1) (⟨#[]⟩ : ByteArray)))))) = some (r1, r2, r3, r4, r5, r6, r7) := by rw [if_neg (show ¬ (false = true) by decide)] at H; exact H
        clear H
        have H := H1
        clear H1
        by_cases c13 : (bt a0 a1) = 34
        · rw [if_pos c13] at H
          have c13b0 : ((bt a0 a1) == 34) = true := beq_iff_eq.mpr c13
          have c13b1 : ((bt a0 a1) != 34) = false := bne_eq_false_iff_eq.mpr c13
          clear c13
          replace H := Option.bind_eq_some_iff.mp H
          obtain ⟨⟨t204, t205, t206, t207, t210, t211, t212⟩, A140, H⟩ := H
          replace H : (some (t204, t205, t206, t207, t210, t211, t212)) = some (r1, r2, r3, r4, r5, r6, r7) := H
          have A14 := Aside0.mk A140
          clear A140
          simp only [Option.some.injEq, Prod.mk.injEq] at H
          obtain ⟨rfl, rfl, rfl, rfl, rfl, rfl, rfl⟩ := H
          go_enter Tryd.func34, Tryd.ntmps34
          go_wp2_with (first | ((with_reducible refine gate_dst (N := 4) rfl ?_); refine box_event ?hg (N := 4) ?hd (cs := #[.int .i64 0, .string (⟨#[]⟩ : ByteArray), .int .i64 0, .slice none 0 0, .int .i64 0]) (t := 33) ?hr ?_; (case hd => rfl); (case hg => rfl); (case hr => first | (go_simp; done) | (go_simp; rfl)); intro gb193 hg w15 hbox hb; have n0_ := Aside0.mk (below_step (by repeat (first | (with_reducible first | exact HB.out | apply below_alloc | apply pw_below_drewN | apply below_drew1) | exact HB.out)) hb); have n1_ := Aside0.mk (hbox); have n2_ := Aside0.mk ((by rw [hg]; exact (below_size (by repeat (first | (with_reducible first | exact HB.out | apply below_alloc | apply pw_below_drewN | apply below_drew1) | exact HB.out))) : w.heap.size ≤ gb193)); have n3_ := Aside0.mk ((by rw [hg]; exact (below_size (by repeat (first | (with_reducible first | exact HB.out | apply below_alloc | apply pw_below_drewN | apply below_drew1) | exact HB.out))) : w.heap.size ≤ gb193)); clear HB; have HB := n0_; have BK193 := n1_; have GW193 := n2_; have GE193 := n3_; clear n0_ n1_ n2_ n3_; clear hb hbox hg; have p5 : 0 ≤ (a1 : Int) := of_decide_eq_true (by first | (with_reducible assumption) | assumption); have q5 : a1 < (a0.size : Int) := of_decide_eq_true (by first | (with_reducible assumption) | assumption); have hx5 := bt_at a0 a1; replace p5 := eq_true p5; replace q5 := eq_true q5) | ((with_reducible refine gate_callee (f := 40) rfl ?_); refine goesL_ (some 16) rfl rfl Tryd.func40 (by kernel_rfl) rfl #[.int .u8 (bt a0 a1), .int .u8 48, .int .u8 57] rfl (by (try simp only [List.map_toArray, List.map_cons, List.map_nil]); first | done | rfl | (simp only [List.length_drop, List.length_take]; rfl)) ?_; (with_reducible refine (rookeryref15_between.calls (bt a0 a1) 48 57 false _ A6.out).mono ?_); rintro e w' ⟨rfl, ⟨nd, rfl⟩⟩; refine ⟨_, rfl, ?_⟩; (try (rw [drewN_self w15]; generalize hq_ : World.drewN w15 _ = w15; have n0_ : Aside0 (w15.heap[gb193]? = some (.cells #[.int .i64 0, .string (⟨#[]⟩ : ByteArray), .int .i64 0, .slice none 0 0, .int .i64 0] 33 (0, 0))) := ⟨by rw [← hq_]; exact (by (with_reducible repeat (first | refine blk_drewN ?_ _ | refine blk_drew ?_ | refine blk_alloc ?_ _)); exact BK193.out)⟩; have n1_ : Aside0 (Below w.heap.size w w15) := ⟨by rw [← hq_]; exact (by repeat (first | (with_reducible first | exact HB.out | apply below_alloc | apply pw_below_drewN | apply below_drew1 | refine below_set ?_ GE193.out) | exact HB.out))⟩; clear BK193 HB hq_; have BK193 := n0_; have HB := n1_; clear n0_ n1_))) | ((with_reducible refine gate_callee (f := 58) rfl ?_); refine goesL_ (some 27) rfl rfl Tryd.func58 (by kernel_rfl) rfl #[.string a0, .int .i64 a1] rfl (by (try simp only [List.map_toArray, List.map_cons, List.map_nil]); first | done | rfl | (simp only [List.length_drop, List.length_take]; rfl)) ?_; (with_reducible refine (rookeryref15_text.calls k a0 a1 t204 t205 t206 t207 t210 t211 t212 _ A14.out).mono ?_); rintro e w16 ⟨v208, rfl, ho0, hb⟩; refine ⟨_, rfl, ?_⟩; have n0_ := Aside0.mk (Kd.R_lower ho0 (below_size (by repeat (first | (with_reducible first | exact HB.out | apply below_alloc | apply pw_below_drewN | apply below_drew1 | refine below_set ?_ GE193.out) | exact HB.out)))); have n1_ := Aside0.mk (blk_below (g := gb193) (o := .cells #[.int .i64 0, .string (⟨#[]⟩ : ByteArray), .int .i64 0, .slice none 0 0, .int .i64 0] 33 (0, 0)) (by (with_reducible repeat (first | refine blk_drewN ?_ _ | refine blk_drew ?_ | refine blk_alloc ?_ _)); exact BK193.out) hb); have n2_ := Aside0.mk (below_step (by repeat (first | (with_reducible first | exact HB.out | apply below_alloc | apply pw_below_drewN | apply below_drew1 | refine below_set ?_ GE193.out) | exact HB.out)) hb); clear BK193; clear HB; have HO209 := n0_; have BK193 := n1_; have HB := n2_; clear n0_ n1_ n2_; (try clear hb); (try clear hb2); (try clear hk); (try clear hi); (try clear ho0); have hcz17_0 : w16.cell? ⟨gb193, 0, none⟩ = some (.int .i64 0) := (blk_cell BK193.out 0).trans rfl; have hcz17_1 : w16.cell? ⟨gb193, 1, none⟩ = some (.string (⟨#[]⟩ : ByteArray)) := (blk_cell BK193.out 1).trans rfl; have hcz17_2 : w16.cell? ⟨gb193, 2, none⟩ = some (.int .i64 0) := (blk_cell BK193.out 2).trans rfl; have hcz17_3 : w16.cell? ⟨gb193, 3, none⟩ = some (.slice none 0 0) := (blk_cell BK193.out 3).trans rfl; have hcz17_4 : w16.cell? ⟨gb193, 4, none⟩ = some (.int .i64 0) := (blk_cell BK193.out 4).trans rfl; have hfz17_0 := blk_frozen BK193.out 0; have hfz17_1 := blk_frozen BK193.out 1; have hfz17_2 := blk_frozen BK193.out 2; have hfz17_3 := blk_frozen BK193.out 3; have hfz17_4 := blk_frozen BK193.out 4; obtain ⟨Ao18, co18, eo18⟩ := Kd.R_slice HO209.out; subst eo18))
          refine bodyPost_ret (results_ctt rfl _ _ gb193 33 #[.int .i64 t204, .string t205, .int .i64 t206, .slice Ao18 t207.length co18, .int .i64 t210] (0, 0) _ rfl (by (with_reducible repeat (first | refine blk_drewN ?_ _ | refine blk_drew ?_ | refine blk_alloc ?_ _)); refine blk_put (cs := #[.int .i64 t204, .string t205, .int .i64 t206, .slice Ao18 t207.length co18, .int .i64 0]) ?_ 4 _ rfl; (with_reducible repeat (first | refine blk_drewN ?_ _ | refine blk_drew ?_ | refine blk_alloc ?_ _)); refine blk_put (cs := #[.int .i64 t204, .string t205, .int .i64 t206, .slice none 0 0, .int .i64 0]) ?_ 3 _ rfl; (with_reducible repeat (first | refine blk_drewN ?_ _ | refine blk_drew ?_ | refine blk_alloc ?_ _)); refine blk_put (cs := #[.int .i64 t204, .string t205, .int .i64 0, .slice none 0 0, .int .i64 0]) ?_ 2 _ rfl; (with_reducible repeat (first | refine blk_drewN ?_ _ | refine blk_drew ?_ | refine blk_alloc ?_ _)); refine blk_put (cs := #[.int .i64 t204, .string (⟨#[]⟩ : ByteArray), .int .i64 0, .slice none 0 0, .int .i64 0]) ?_ 1 _ rfl; (with_reducible repeat (first | refine blk_drewN ?_ _ | refine blk_drew ?_ | refine blk_alloc ?_ _)); refine blk_put (cs := #[.int .i64 0, .string (⟨#[]⟩ : ByteArray), .int .i64 0, .slice none 0 0, .int .i64 0]) ?_ 0 _ rfl; (with_reducible repeat (first | refine blk_drewN ?_ _ | refine blk_drew ?_ | refine blk_alloc ?_ _)); exact BK193.out) Tryd.underlying33 rfl (by kernel_rfl)) rfl ?_
          exact ⟨_, by first | rfl | (simp [errW_none, errW_some] <;> rfl) | (simp [*, errW_none, errW_some] <;> rfl), by (with_reducible repeat (first | apply Kd.R_alloc | apply Kd.R_drewN | apply Kd.R_drew)); exact Kd.R_mono (Kd.R_far (p := ⟨gb193, 4, none⟩) (Kd.R_far (p := ⟨gb193, 3, none⟩) (Kd.R_far (p := ⟨gb193, 2, none⟩) (Kd.R_far (p := ⟨gb193, 1, none⟩) (Kd.R_far (p := ⟨gb193, 0, none⟩) (Kd.R_types HO209.out BK193.out (by decide)) (fun _ hk => hk.2) (.int .i64 t204)) (fun _ hk => hk.2) (.string t205)) (fun _ hk => hk.2) (.int .i64 t206)) (fun _ hk => hk.2) (.slice Ao18 t207.length co18)) (fun _ hk => hk.2) (.int .i64 t210)) (fun _ hk => trivial), by repeat (first | (with_reducible first | exact HB.out | apply below_alloc | apply pw_below_drewN | apply below_drew1 | refine below_set ?_ GE193.out) | exact HB.out)⟩
        · rw [if_neg c13] at H
          have c13b0 : ((bt a0 a1) == 34) = false := beq_eq_false_iff_ne.mpr c13
          have c13b1 : ((bt a0 a1) != 34) = true := bne_iff_ne.mpr c13
          replace H := Option.bind_eq_some_iff.mp H
          obtain ⟨t213, A190, H⟩ := H
          replace H : (if t213 = true then (rookeryref15_token.l0 k a0 a1 (bt a0 a1) a1) else (if (wrap64 (a1 + 1)) < (a0.size : Int) then (if a1 ≤ (wrap64 (a1 + 2)) then (if (wrap64 (a1 + 2)) ≤ (a0.size : Int) then (rookeryref15_token.j2 k a1 (bt a0 a1) (a0.extract (a1 : Int).toNat ((wrap64 (a1 + 2)) : Int).toNat)) else (none)) else (none)) else (rookeryref15_token.j2 k a1 (bt a0 a1) (⟨#[]⟩ : ByteArray)))) = some (r1, r2, r3, r4, r5, r6, r7) := H
          have A19 := Aside0.mk A190
          clear A190
          by_cases c20 : t213 = true
          · subst c20
            have H1 : (rookeryref15_token.l0 k a0 a1 (bt a0 a1) a1) = some (r1, r2, r3, r4, r5, r6, r7) := by rw [if_pos rfl] at H; exact H
            clear H
            have H := H1
            clear H1
            have HC21 := Aside0.mk H
            clear H
            go_enter Tryd.func34, Tryd.ntmps34
            go_upto_block 0 with (first | ((with_reducible refine gate_dst (N := 4) rfl ?_); refine box_event ?hg (N := 4) ?hd (cs := #[.int .i64 0, .string (⟨#[]⟩ : ByteArray), .int .i64 0, .slice none 0 0, .int .i64 0]) (t := 33) ?hr ?_; (case hd => rfl); (case hg => rfl); (case hr => first | (go_simp; done) | (go_simp; rfl)); intro gb193 hg w22 hbox hb; have n0_ := Aside0.mk (below_step (by repeat (first | (with_reducible first | exact HB.out | apply below_alloc | apply pw_below_drewN | apply below_drew1) | exact HB.out)) hb); have n1_ := Aside0.mk (hbox); have n2_ := Aside0.mk ((by rw [hg]; exact (below_size (by repeat (first | (with_reducible first | exact HB.out | apply below_alloc | apply pw_below_drewN | apply below_drew1) | exact HB.out))) : w.heap.size ≤ gb193)); have n3_ := Aside0.mk ((by rw [hg]; exact (below_size (by repeat (first | (with_reducible first | exact HB.out | apply below_alloc | apply pw_below_drewN | apply below_drew1) | exact HB.out))) : w.heap.size ≤ gb193)); clear HB; have HB := n0_; have BK193 := n1_; have GW193 := n2_; have GE193 := n3_; clear n0_ n1_ n2_ n3_; clear hb hbox hg; have p5 : 0 ≤ (a1 : Int) := of_decide_eq_true (by first | (with_reducible assumption) | assumption); have q5 : a1 < (a0.size : Int) := of_decide_eq_true (by first | (with_reducible assumption) | assumption); have hx5 := bt_at a0 a1; replace p5 := eq_true p5; replace q5 := eq_true q5) | ((with_reducible refine gate_callee (f := 40) rfl ?_); refine goesL_ (some 16) rfl rfl Tryd.func40 (by kernel_rfl) rfl #[.int .u8 (bt a0 a1), .int .u8 48, .int .u8 57] rfl (by (try simp only [List.map_toArray, List.map_cons, List.map_nil]); first | done | rfl | (simp only [List.length_drop, List.length_take]; rfl)) ?_; (with_reducible refine (rookeryref15_between.calls (bt a0 a1) 48 57 false _ A6.out).mono ?_); rintro e w' ⟨rfl, ⟨nd, rfl⟩⟩; refine ⟨_, rfl, ?_⟩) | ((with_reducible refine gate_callee (f := 59) rfl ?_); refine goesL_ (some 32) rfl rfl Tryd.func59 (by kernel_rfl) rfl #[.int .u8 (bt a0 a1)] rfl (by (try simp only [List.map_toArray, List.map_cons, List.map_nil]); first | done | rfl | (simp only [List.length_drop, List.length_take]; rfl)) ?_; (with_reducible refine (rookeryref15_name.calls (bt a0 a1) true _ A19.out).mono ?_); rintro e w' ⟨rfl, ⟨nd, rfl⟩⟩; refine ⟨_, rfl, ?_⟩))
            (try simp only [Act.put, List.setIfInBounds_toArray, List.set_cons_zero, List.set_cons_succ])
            go_cut [8] (fun v8 wc => ∃ (kq : Nat) (x8_20 : Int), v8 = .int .i64 x8_20 ∧ Aside0 (rookeryref15_token.j1 kq a0 a1 (bt a0 a1) x8_20 = some (r1, r2, r3, r4, r5, r6, r7)) ∧ Aside0 (kq ≤ k) ∧ Aside0 (wc.heap[gb193]? = some (.cells #[.int .i64 0, .string (⟨#[]⟩ : ByteArray), .int .i64 0, (.slice none 0 0), .int .i64 0] 33 (0, 0))) ∧ Aside0 (Below w.heap.size w wc))
            case first =>
              have H := HC21.out
              clear HC21
              have H' := Aside0.mk H
              clear H
              go_wp2
              go_loopg [8] k (fun kq v8 w' => ∃ (x8_1 : Int), v8 = .int .i64 x8_1 ∧ Aside0 (rookeryref15_token.l0 kq a0 a1 (bt a0 a1) x8_1 = some (r1, r2, r3, r4, r5, r6, r7)) ∧ Aside0 (kq ≤ k) ∧ Aside0 (w'.heap[gb193]? = some (.cells #[.int .i64 0, .string (⟨#[]⟩ : ByteArray), .int .i64 0, (.slice none 0 0), .int .i64 0] 33 (0, 0))) ∧ Aside0 (Below w.heap.size w w'))
              case atStart => exact ⟨(a1), (by first | rfl | (simp; done) | (simp [*]; done)), H', ⟨Nat.le_refl _⟩, ⟨by (with_reducible repeat (first | refine blk_drewN ?_ _ | refine blk_drew ?_ | refine blk_alloc ?_ _)); exact BK193.out⟩, ⟨by repeat (first | (with_reducible first | exact HB.out | apply below_alloc | apply pw_below_drewN | apply below_drew1 | refine below_set ?_ GE193.out) | exact HB.out)⟩⟩
              case round =>
                clear H'
                try clear c1
                try clear c2
                try clear p2
                try clear c3
                try clear c3b0
                try clear c4
                try clear c4b0
                try clear c5
                try clear p5
                try clear q5
                try clear hx5
                try clear p6
                try clear c7
                try clear c13
                try clear c13b0
                try clear c13b1
                try clear c20
                try clear hcz11_0
                try clear hcz11_1
                try clear hcz11_2
                try clear hcz11_3
                try clear hcz11_4
                try clear hcz17_0
                try clear hcz17_1
                try clear hcz17_2
                try clear hcz17_3
                try clear hcz17_4
                try clear hfz11_0
                try clear hfz11_1
                try clear hfz11_2
                try clear hfz11_3
                try clear hfz11_4
                try clear hfz17_0
                try clear hfz17_1
                try clear hfz17_2
                try clear hfz17_3
                try clear hfz17_4
                try clear p5
                try clear q5
                obtain ⟨x8_1, rfl, HA, HK1, BK193, HB⟩ := hrel
                cases gk with
                | zero => exact absurd HA.out (by simp [rookeryref15_token.l0])
                | succ k1 =>
                  have H := HA.out
                  clear HA
                  simp only [rookeryref15_token.l0] at H
                  by_cases c23 : x8_1 < (a0.size : Int)
                  · rw [if_pos c23] at H
                    have c23b0 : decide (x8_1 < (a0.size : Int)) = true := decide_eq_true c23
                    clear c23
                    (first | rw [c23b0] | (simp only [i64_w, i32_w]; rw [c23b0]) | skip)
                    by_cases c24 : 0 ≤ x8_1
                    · rw [if_pos c24] at H
                      have c24b0 : decide (0 ≤ x8_1) = true := decide_eq_true c24
                      clear c24
                      replace H := Option.bind_eq_some_iff.mp H
                      obtain ⟨t214, A260, H⟩ := H
                      replace H : (if t214 = true then (rookeryref15_token.l0 k1 a0 a1 (bt a0 a1) (wrap64 (x8_1 + 1))) else (rookeryref15_token.j1 k1 a0 a1 (bt a0 a1) x8_1)) = some (r1, r2, r3, r4, r5, r6, r7) := H
                      have A26 := Aside0.mk A260
                      clear A260
                      by_cases c27 : t214 = true
                      · subst c27
                        have H1 : (rookeryref15_token.l0 k1 a0 a1 (bt a0 a1) (wrap64 (x8_1 + 1))) = some (r1, r2, r3, r4, r5, r6, r7) := by rw [if_pos rfl] at H; exact H
                        clear H
                        have H := H1
                        clear H1
                        have H' := Aside0.mk H
                        clear H
                        have p25 : 0 ≤ (x8_1 : Int) := of_decide_eq_true (by first | (with_reducible assumption) | assumption)
                        have q25 : x8_1 < (a0.size : Int) := of_decide_eq_true (by first | (with_reducible assumption) | assumption)
                        have hx25 := bt_at a0 x8_1
                        replace p25 := eq_true p25
                        replace q25 := eq_true q25
                        go_wp2_with (first | (go_at_call 59; (with_reducible refine (rookeryref15_name.calls (bt a0 x8_1) true _ A26.out).mono ?_); rintro e w' ⟨rfl, ⟨nd, rfl⟩⟩))
                        go_roundg k1
                        case measure => have := HK1.out; omega
                        case rel => exact ⟨(wrap64 (x8_1 + 1)), (by first | rfl | (simp; done) | (simp [*]; done)), H', ⟨by have := HK1.out; omega⟩, ⟨by (with_reducible repeat (first | refine blk_drewN ?_ _ | refine blk_drew ?_ | refine blk_alloc ?_ _)); exact BK193.out⟩, ⟨by repeat (first | (with_reducible first | exact HB.out | apply below_alloc | apply pw_below_drewN | apply below_drew1 | refine below_set ?_ GE193.out) | exact HB.out)⟩⟩
                      · replace c27 := Bool.eq_false_iff.mpr c27
                        subst c27
                        have H1 : (rookeryref15_token.j1 k1 a0 a1 (bt a0 a1) x8_1) = some (r1, r2, r3, r4, r5, r6, r7) := by rw [if_neg (show ¬ (false = true) by decide)] at H; exact H
                        clear H
                        have H := H1
                        clear H1
                        have H' := Aside0.mk H
                        clear H
                        have p25 : 0 ≤ (x8_1 : Int) := of_decide_eq_true (by first | (with_reducible assumption) | assumption)
                        have q25 : x8_1 < (a0.size : Int) := of_decide_eq_true (by first | (with_reducible assumption) | assumption)
                        have hx25 := bt_at a0 x8_1
                        replace p25 := eq_true p25
                        replace q25 := eq_true q25
                        go_wp2_with (first | (go_at_call 59; (with_reducible refine (rookeryref15_name.calls (bt a0 x8_1) false _ A26.out).mono ?_); rintro e w' ⟨rfl, ⟨nd, rfl⟩⟩))
                        go_meet
                        case rel => exact ⟨_, (x8_1), (by first | rfl | (simp; done) | (simp [*]; done)), H', ⟨by have := HK1.out; first | omega | exact Nat.le_refl _⟩, ⟨by (with_reducible repeat (first | refine blk_drewN ?_ _ | refine blk_drew ?_ | refine blk_alloc ?_ _)); exact BK193.out⟩, ⟨by repeat (first | (with_reducible first | exact HB.out | apply below_alloc | apply pw_below_drewN | apply below_drew1 | refine below_set ?_ GE193.out) | exact HB.out)⟩⟩
                    · rw [if_neg c24] at H
                      exact absurd H (by simp)
                  · rw [if_neg c23] at H
                    have c23b0 : decide (x8_1 < (a0.size : Int)) = false := decide_eq_false c23
                    clear c23
                    (first | rw [c23b0] | (simp only [i64_w, i32_w]; rw [c23b0]) | skip)
                    have H' := Aside0.mk H
                    clear H
                    go_wp2
                    go_meet
                    case rel => exact ⟨_, (x8_1), (by first | rfl | (simp; done) | (simp [*]; done)), H', ⟨by have := HK1.out; first | omega | exact Nat.le_refl _⟩, ⟨by (with_reducible repeat (first | refine blk_drewN ?_ _ | refine blk_drew ?_ | refine blk_alloc ?_ _)); exact BK193.out⟩, ⟨by repeat (first | (with_reducible first | exact HB.out | apply below_alloc | apply pw_below_drewN | apply below_drew1 | refine below_set ?_ GE193.out) | exact HB.out)⟩⟩
            case rest =>
              clear HC21
              try clear c1
              try clear c2
              try clear p2
              try clear q2
              try clear hx2
              try clear c3
              try clear c3b0
              try clear c4
              try clear c4b0
              try clear c5
              try clear p5
              try clear q5
              try clear hx5
              try clear p6
              try clear c7
              try clear c13
              try clear c13b0
              try clear c13b1
              try clear c20
              try clear c23
              try clear c23b0
              try clear c24
              try clear c24b0
              try clear p25
              try clear q25
              try clear hx25
              try clear c27
              try clear hcz11_0
              try clear hcz11_1
              try clear hcz11_2
              try clear hcz11_3
              try clear hcz11_4
              try clear hcz17_0
              try clear hcz17_1
              try clear hcz17_2
              try clear hcz17_3
              try clear hcz17_4
              try clear hfz11_0
              try clear hfz11_1
              try clear hfz11_2
              try clear hfz11_3
              try clear hfz11_4
              try clear hfz17_0
              try clear hfz17_1
              try clear hfz17_2
              try clear hfz17_3
              try clear hfz17_4
              try clear p2
              try clear p25
              try clear p5
              try clear p6
              try clear q25
              try clear q5
              obtain ⟨kq, x8_20, rfl, HA, HJ20, BK193, HB⟩ := hcut
              cases kq with
              | zero => exact absurd HA.out (by simp [rookeryref15_token.j1])
              | succ kj20 =>
                have H := HA.out
                clear HA
                simp only [rookeryref15_token.j1] at H
                by_cases c28 : 0 ≤ a1
                · rw [if_pos c28] at H
                  have c28b0 := eq_true c28
                  have c28b1 : decide (0 ≤ a1) = true := decide_eq_true c28
                  clear c28
                  by_cases c29 : a1 ≤ x8_20
                  · rw [if_pos c29] at H
                    have c29b0 := eq_true c29
                    have c29b1 : decide (a1 ≤ x8_20) = true := decide_eq_true c29
                    clear c29
                    by_cases c30 : x8_20 ≤ (a0.size : Int)
                    · rw [if_pos c30] at H
                      have c30b0 := eq_true c30
                      have c30b1 : decide (x8_20 ≤ (a0.size : Int)) = true := decide_eq_true c30
                      clear c30
                      by_cases c31 : (wrap64 (x8_20 - a1)) > 32
                      · rw [if_pos c31] at H
                        have c31b0 : decide (32 < (wrap64 (x8_20 - a1))) = true := decide_eq_true c31
                        clear c31
                        simp only [Option.some.injEq, Prod.mk.injEq] at H
                        obtain ⟨rfl, rfl, rfl, rfl, rfl, rfl, rfl⟩ := H
                        go_wp2_with (first | ((with_reducible refine gate_dst (N := 9) rfl ?_); refine box_event ?hg (N := 9) ?hd (cs := #[.int .i64 0, .string (⟨#[]⟩ : ByteArray), .int .i64 0, .slice none 0 0, .int .i64 0]) (t := 33) ?hr ?_; (case hd => rfl); (case hg => rfl); (case hr => first | (go_simp; done) | (go_simp; rfl)); intro gb215 hg w32 hbox hb; have n0_ := Aside0.mk (blk_below (g := gb193) (o := .cells #[.int .i64 0, .string (⟨#[]⟩ : ByteArray), .int .i64 0, .slice none 0 0, .int .i64 0] 33 (0, 0)) (by (with_reducible repeat (first | refine blk_drewN ?_ _ | refine blk_drew ?_ | refine blk_alloc ?_ _)); exact BK193.out) hb); have n1_ := Aside0.mk (below_step (by repeat (first | (with_reducible first | exact HB.out | apply below_alloc | apply pw_below_drewN | apply below_drew1 | refine below_set ?_ GE193.out) | exact HB.out)) hb); have n2_ := Aside0.mk (hbox); have n3_ := Aside0.mk ((by rw [hg]; exact (below_size (by repeat (first | (with_reducible first | exact HB.out | apply below_alloc | apply pw_below_drewN | apply below_drew1 | refine below_set ?_ GE193.out) | exact HB.out))) : w.heap.size ≤ gb215)); have n4_ := Aside0.mk ((by rw [hg]; exact (below_size (by repeat (first | (with_reducible first | exact HB.out | apply below_alloc | apply pw_below_drewN | apply below_drew1 | refine below_set ?_ GE193.out) | exact HB.out))) : w.heap.size ≤ gb215)); have n5_ := Aside0.mk ((by rw [hg]; exact Nat.ne_of_lt (blk_lt (g := gb193) (o := .cells #[.int .i64 0, .string (⟨#[]⟩ : ByteArray), .int .i64 0, .slice none 0 0, .int .i64 0] 33 (0, 0)) (by (with_reducible repeat (first | refine blk_drewN ?_ _ | refine blk_drew ?_ | refine blk_alloc ?_ _)); exact BK193.out)) : gb193 ≠ gb215)); have n6_ := Aside0.mk ((by rw [hg]; exact Nat.ne_of_gt (blk_lt (g := gb193) (o := .cells #[.int .i64 0, .string (⟨#[]⟩ : ByteArray), .int .i64 0, .slice none 0 0, .int .i64 0] 33 (0, 0)) (by (with_reducible repeat (first | refine blk_drewN ?_ _ | refine blk_drew ?_ | refine blk_alloc ?_ _)); exact BK193.out)) : gb215 ≠ gb193)); clear BK193; clear HB; have BK193 := n0_; have HB := n1_; have BK215 := n2_; have GW215 := n3_; have GE215 := n4_; have NB193_215 := n5_; have NB215_193 := n6_; clear n0_ n1_ n2_ n3_ n4_ n5_ n6_; clear hb hbox hg; have hnb33 := NB215_193.out; have hnc33 := NB193_215.out; have hcz34_0 : w32.cell? ⟨gb215, 0, none⟩ = some (.int .i64 0) := (blk_cell BK215.out 0).trans rfl; have hcz34_1 : w32.cell? ⟨gb215, 1, none⟩ = some (.string (⟨#[]⟩ : ByteArray)) := (blk_cell BK215.out 1).trans rfl; have hcz34_2 : w32.cell? ⟨gb215, 2, none⟩ = some (.int .i64 0) := (blk_cell BK215.out 2).trans rfl; have hcz34_3 : w32.cell? ⟨gb215, 3, none⟩ = some (.slice none 0 0) := (blk_cell BK215.out 3).trans rfl; have hcz34_4 : w32.cell? ⟨gb215, 4, none⟩ = some (.int .i64 0) := (blk_cell BK215.out 4).trans rfl; have hfz34_0 := blk_frozen BK215.out 0; have hfz34_1 := blk_frozen BK215.out 1; have hfz34_2 := blk_frozen BK215.out 2; have hfz34_3 := blk_frozen BK215.out 3; have hfz34_4 := blk_frozen BK215.out 4; have hcz35_0 : w32.cell? ⟨gb193, 0, none⟩ = some (.int .i64 0) := (blk_cell BK193.out 0).trans rfl; have hcz35_1 : w32.cell? ⟨gb193, 1, none⟩ = some (.string (⟨#[]⟩ : ByteArray)) := (blk_cell BK193.out 1).trans rfl; have hcz35_2 : w32.cell? ⟨gb193, 2, none⟩ = some (.int .i64 0) := (blk_cell BK193.out 2).trans rfl; have hcz35_3 : w32.cell? ⟨gb193, 3, none⟩ = some (.slice none 0 0) := (blk_cell BK193.out 3).trans rfl; have hcz35_4 : w32.cell? ⟨gb193, 4, none⟩ = some (.int .i64 0) := (blk_cell BK193.out 4).trans rfl; have hfz35_0 := blk_frozen BK193.out 0; have hfz35_1 := blk_frozen BK193.out 1; have hfz35_2 := blk_frozen BK193.out 2; have hfz35_3 := blk_frozen BK193.out 3; have hfz35_4 := blk_frozen BK193.out 4))
                        refine bodyPost_ret (results_ctt rfl _ _ gb193 33 #[.int .i64 0, .string (⟨#[]⟩ : ByteArray), .int .i64 0, .slice none 0 0, .int .i64 0] (0, 0) _ rfl (by (with_reducible repeat (first | refine blk_drewN ?_ _ | refine blk_drew ?_ | refine blk_alloc ?_ _)); refine blk_put (cs := #[.int .i64 0, .string (⟨#[]⟩ : ByteArray), .int .i64 0, .slice none 0 0, .int .i64 0]) ?_ 4 _ rfl; (with_reducible repeat (first | refine blk_drewN ?_ _ | refine blk_drew ?_ | refine blk_alloc ?_ _)); refine blk_put (cs := #[.int .i64 0, .string (⟨#[]⟩ : ByteArray), .int .i64 0, .slice none 0 0, .int .i64 0]) ?_ 3 _ rfl; (with_reducible repeat (first | refine blk_drewN ?_ _ | refine blk_drew ?_ | refine blk_alloc ?_ _)); refine blk_put (cs := #[.int .i64 0, .string (⟨#[]⟩ : ByteArray), .int .i64 0, .slice none 0 0, .int .i64 0]) ?_ 2 _ rfl; (with_reducible repeat (first | refine blk_drewN ?_ _ | refine blk_drew ?_ | refine blk_alloc ?_ _)); refine blk_put (cs := #[.int .i64 0, .string (⟨#[]⟩ : ByteArray), .int .i64 0, .slice none 0 0, .int .i64 0]) ?_ 1 _ rfl; (with_reducible repeat (first | refine blk_drewN ?_ _ | refine blk_drew ?_ | refine blk_alloc ?_ _)); refine blk_put (cs := #[.int .i64 0, .string (⟨#[]⟩ : ByteArray), .int .i64 0, .slice none 0 0, .int .i64 0]) ?_ 0 _ rfl; (with_reducible repeat (first | refine blk_drewN ?_ _ | refine blk_drew ?_ | refine blk_alloc ?_ _)); refine blk_far ?_ NB193_215.out _; (with_reducible repeat (first | refine blk_drewN ?_ _ | refine blk_drew ?_ | refine blk_alloc ?_ _)); refine blk_far ?_ NB193_215.out _; (with_reducible repeat (first | refine blk_drewN ?_ _ | refine blk_drew ?_ | refine blk_alloc ?_ _)); refine blk_far ?_ NB193_215.out _; (with_reducible repeat (first | refine blk_drewN ?_ _ | refine blk_drew ?_ | refine blk_alloc ?_ _)); refine blk_far ?_ NB193_215.out _; (with_reducible repeat (first | refine blk_drewN ?_ _ | refine blk_drew ?_ | refine blk_alloc ?_ _)); refine blk_far ?_ NB193_215.out _; (with_reducible repeat (first | refine blk_drewN ?_ _ | refine blk_drew ?_ | refine blk_alloc ?_ _)); exact BK193.out) Tryd.underlying33 rfl (by kernel_rfl)) rfl ?_
                        exact ⟨_, by first | rfl | (simp [errW_none, errW_some] <;> rfl) | (simp [*, errW_none, errW_some] <;> rfl), by first | exact Kd.R_nil _ _ _ _ _ | exact Kd.N_nil _ _ _ _ _ | exact Kd.V_nil _ _ _ _ _ | exact Kd.Q_nil _ _ _ _ _ | exact Kd.S_nil _ _ _ _ _, by repeat (first | (with_reducible first | exact HB.out | apply below_alloc | apply pw_below_drewN | apply below_drew1 | refine below_set ?_ GE193.out | refine below_set ?_ GE215.out) | exact HB.out)⟩
                      · rw [if_neg c31] at H
                        have c31b0 : decide (32 < (wrap64 (x8_20 - a1))) = false := decide_eq_false c31
                        clear c31
                        replace H := Option.bind_eq_some_iff.mp H
                        obtain ⟨t216, A360, H⟩ := H
                        replace H : (if t216 = true then ((rookeryref15_Word.f (a0.extract (a1 : Int).toNat (x8_20 : Int).toNat)).bind fun t217 => (if t217 = true then (some (6, a0.extract (a1 : Int).toNat (x8_20 : Int).toNat, 0, ([] : List Int), a1, x8_20, 0)) else (some (2, a0.extract (a1 : Int).toNat (x8_20 : Int).toNat, 0, ([] : List Int), a1, x8_20, 0)))) else (some (3, a0.extract (a1 : Int).toNat (x8_20 : Int).toNat, 0, ([] : List Int), a1, x8_20, 0))) = some (r1, r2, r3, r4, r5, r6, r7) := H
                        have A36 := Aside0.mk A360
                        clear A360
                        by_cases c37 : t216 = true
                        · subst c37
                          have H1 : ((rookeryref15_Word.f (a0.extract (a1 : Int).toNat (x8_20 : Int).toNat)).bind fun t217 => (if t217 = true then (some (6, a0.extract (a1 : Int).toNat (x8_20 : Int).toNat, 0, ([] : List Int), a1, x8_20, 0)) else (some (2, a0.extract (a1 : Int).toNat (x8_20 : Int).toNat, 0, ([] : List Int), a1, x8_20, 0)))) = some (r1, r2, r3, r4, r5, r6, r7) := by rw [if_pos rfl] at H; exact H
                          clear H
                          have H := H1
                          clear H1
                          replace H := Option.bind_eq_some_iff.mp H
                          obtain ⟨t217, A380, H⟩ := H
                          replace H : (if t217 = true then (some (6, a0.extract (a1 : Int).toNat (x8_20 : Int).toNat, 0, ([] : List Int), a1, x8_20, 0)) else (some (2, a0.extract (a1 : Int).toNat (x8_20 : Int).toNat, 0, ([] : List Int), a1, x8_20, 0))) = some (r1, r2, r3, r4, r5, r6, r7) := H
                          have A38 := Aside0.mk A380
                          clear A380
                          by_cases c39 : t217 = true
                          · subst c39
                            have H1 : (some (6, a0.extract (a1 : Int).toNat (x8_20 : Int).toNat, 0, ([] : List Int), a1, x8_20, 0)) = some (r1, r2, r3, r4, r5, r6, r7) := by rw [if_pos rfl] at H; exact H
                            clear H
                            have H := H1
                            clear H1
                            simp only [Option.some.injEq, Prod.mk.injEq] at H
                            obtain ⟨rfl, rfl, rfl, rfl, rfl, rfl, rfl⟩ := H
                            go_wp2_with (first | ((with_reducible refine gate_dst (N := 9) rfl ?_); refine box_event ?hg (N := 9) ?hd (cs := #[.int .i64 0, .string (⟨#[]⟩ : ByteArray), .int .i64 0, .slice none 0 0, .int .i64 0]) (t := 33) ?hr ?_; (case hd => rfl); (case hg => rfl); (case hr => first | (go_simp; done) | (go_simp; rfl)); intro gb215 hg w40 hbox hb; have n0_ := Aside0.mk (blk_below (g := gb193) (o := .cells #[.int .i64 0, .string (⟨#[]⟩ : ByteArray), .int .i64 0, .slice none 0 0, .int .i64 0] 33 (0, 0)) (by (with_reducible repeat (first | refine blk_drewN ?_ _ | refine blk_drew ?_ | refine blk_alloc ?_ _)); exact BK193.out) hb); have n1_ := Aside0.mk (below_step (by repeat (first | (with_reducible first | exact HB.out | apply below_alloc | apply pw_below_drewN | apply below_drew1 | refine below_set ?_ GE193.out) | exact HB.out)) hb); have n2_ := Aside0.mk (hbox); have n3_ := Aside0.mk ((by rw [hg]; exact (below_size (by repeat (first | (with_reducible first | exact HB.out | apply below_alloc | apply pw_below_drewN | apply below_drew1 | refine below_set ?_ GE193.out) | exact HB.out))) : w.heap.size ≤ gb215)); have n4_ := Aside0.mk ((by rw [hg]; exact (below_size (by repeat (first | (with_reducible first | exact HB.out | apply below_alloc | apply pw_below_drewN | apply below_drew1 | refine below_set ?_ GE193.out) | exact HB.out))) : w.heap.size ≤ gb215)); have n5_ := Aside0.mk ((by rw [hg]; exact Nat.ne_of_lt (blk_lt (g := gb193) (o := .cells #[.int .i64 0, .string (⟨#[]⟩ : ByteArray), .int .i64 0, .slice none 0 0, .int .i64 0] 33 (0, 0)) (by (with_reducible repeat (first | refine blk_drewN ?_ _ | refine blk_drew ?_ | refine blk_alloc ?_ _)); exact BK193.out)) : gb193 ≠ gb215)); have n6_ := Aside0.mk ((by rw [hg]; exact Nat.ne_of_gt (blk_lt (g := gb193) (o := .cells #[.int .i64 0, .string (⟨#[]⟩ : ByteArray), .int .i64 0, .slice none 0 0, .int .i64 0] 33 (0, 0)) (by (with_reducible repeat (first | refine blk_drewN ?_ _ | refine blk_drew ?_ | refine blk_alloc ?_ _)); exact BK193.out)) : gb215 ≠ gb193)); clear BK193; clear HB; have BK193 := n0_; have HB := n1_; have BK215 := n2_; have GW215 := n3_; have GE215 := n4_; have NB193_215 := n5_; have NB215_193 := n6_; clear n0_ n1_ n2_ n3_ n4_ n5_ n6_; clear hb hbox hg; have hnb41 := NB215_193.out; have hnc41 := NB193_215.out; have hcz42_0 : w40.cell? ⟨gb215, 0, none⟩ = some (.int .i64 0) := (blk_cell BK215.out 0).trans rfl; have hcz42_1 : w40.cell? ⟨gb215, 1, none⟩ = some (.string (⟨#[]⟩ : ByteArray)) := (blk_cell BK215.out 1).trans rfl; have hcz42_2 : w40.cell? ⟨gb215, 2, none⟩ = some (.int .i64 0) := (blk_cell BK215.out 2).trans rfl; have hcz42_3 : w40.cell? ⟨gb215, 3, none⟩ = some (.slice none 0 0) := (blk_cell BK215.out 3).trans rfl; have hcz42_4 : w40.cell? ⟨gb215, 4, none⟩ = some (.int .i64 0) := (blk_cell BK215.out 4).trans rfl; have hfz42_0 := blk_frozen BK215.out 0; have hfz42_1 := blk_frozen BK215.out 1; have hfz42_2 := blk_frozen BK215.out 2; have hfz42_3 := blk_frozen BK215.out 3; have hfz42_4 := blk_frozen BK215.out 4) | ((with_reducible refine gate_callee (f := 40) rfl ?_); refine goesL_ (some 59) rfl rfl Tryd.func40 (by kernel_rfl) rfl #[.int .u8 (bt a0 a1), .int .u8 97, .int .u8 122] rfl (by (try simp only [List.map_toArray, List.map_cons, List.map_nil]); first | done | rfl | (simp only [List.length_drop, List.length_take]; rfl)) ?_; (with_reducible refine (rookeryref15_between.calls (bt a0 a1) 97 122 true _ A36.out).mono ?_); rintro e w' ⟨rfl, ⟨nd, rfl⟩⟩; refine ⟨_, rfl, ?_⟩))
                            refine (rookeryref15_Word.calls (a0.extract (a1 : Int).toNat (x8_20 : Int).toNat) true _ A38.out).mono ?_
                            rintro e w1 ⟨rfl, ⟨nd2, hw1⟩⟩
                            have BT : w1.heap[gb215]? = some (.cells #[.int .i64 2, .string (a0.extract (a1 : Int).toNat (x8_20 : Int).toNat), .int .i64 0, .slice none 0 0, .int .i64 a1] 33 (0, 0)) := by
                              rw [hw1]
                              refine blk_drewN ?_ _
                              refine blk_put (cs := #[.int .i64 3, .string (a0.extract (a1 : Int).toNat (x8_20 : Int).toNat), .int .i64 0, .slice none 0 0, .int .i64 a1]) ?_ 0 _ rfl
                              refine blk_drewN ?_ _
                              refine blk_put (cs := #[.int .i64 3, .string (a0.extract (a1 : Int).toNat (x8_20 : Int).toNat), .int .i64 0, .slice none 0 0, .int .i64 0]) ?_ 4 _ rfl
                              refine blk_put (cs := #[.int .i64 3, .string (a0.extract (a1 : Int).toNat (x8_20 : Int).toNat), .int .i64 0, .slice none 0 0, .int .i64 0]) ?_ 3 _ rfl
                              refine blk_put (cs := #[.int .i64 3, .string (a0.extract (a1 : Int).toNat (x8_20 : Int).toNat), .int .i64 0, .slice none 0 0, .int .i64 0]) ?_ 2 _ rfl
                              refine blk_put (cs := #[.int .i64 3, .string (⟨#[]⟩ : ByteArray), .int .i64 0, .slice none 0 0, .int .i64 0]) ?_ 1 _ rfl
                              refine blk_put (cs := #[.int .i64 0, .string (⟨#[]⟩ : ByteArray), .int .i64 0, .slice none 0 0, .int .i64 0]) ?_ 0 _ rfl
                              exact BK215.out
                            have BR : w1.heap[gb193]? = some (.cells #[.int .i64 0, .string (⟨#[]⟩ : ByteArray), .int .i64 0, .slice none 0 0, .int .i64 0] 33 (0, 0)) := by
                              rw [hw1]
                              refine blk_drewN ?_ _
                              refine blk_far ?_ NB193_215.out _
                              refine blk_drewN ?_ _
                              refine blk_far (blk_far (blk_far (blk_far (blk_far ?_ NB193_215.out _) NB193_215.out _) NB193_215.out _) NB193_215.out _) NB193_215.out _
                              exact BK193.out
                            have HB1 : Below w.heap.size w w1 := by
                              rw [hw1]
                              repeat (first | (with_reducible first | exact HB.out | apply below_alloc | apply pw_below_drewN | apply below_drew1 | refine below_set ?_ GE193.out | refine below_set ?_ GE215.out) | exact HB.out)
                            try clear hcz42_0
                            try clear hfz42_0
                            try clear hcz42_1
                            try clear hfz42_1
                            try clear hcz42_2
                            try clear hfz42_2
                            try clear hcz42_3
                            try clear hfz42_3
                            try clear hcz42_4
                            try clear hfz42_4
                            clear hw1 BK193 BK215 HB A36 A38
                            have kt0 : w1.cell? ⟨gb215, 0, none⟩ = some (.int .i64 2) := (blk_cell BT 0).trans rfl
                            have kr0 : w1.cell? ⟨gb193, 0, none⟩ = some (.int .i64 0) := (blk_cell BR 0).trans rfl
                            have ft0 := blk_frozen BT 0
                            have fr0 := blk_frozen BR 0
                            have kt1 : w1.cell? ⟨gb215, 1, none⟩ = some (.string (a0.extract (a1 : Int).toNat (x8_20 : Int).toNat)) := (blk_cell BT 1).trans rfl
                            have kr1 : w1.cell? ⟨gb193, 1, none⟩ = some (.string (⟨#[]⟩ : ByteArray)) := (blk_cell BR 1).trans rfl
                            have ft1 := blk_frozen BT 1
                            have fr1 := blk_frozen BR 1
                            have kt2 : w1.cell? ⟨gb215, 2, none⟩ = some (.int .i64 0) := (blk_cell BT 2).trans rfl
                            have kr2 : w1.cell? ⟨gb193, 2, none⟩ = some (.int .i64 0) := (blk_cell BR 2).trans rfl
                            have ft2 := blk_frozen BT 2
                            have fr2 := blk_frozen BR 2
                            have kt3 : w1.cell? ⟨gb215, 3, none⟩ = some (.slice none 0 0) := (blk_cell BT 3).trans rfl
                            have kr3 : w1.cell? ⟨gb193, 3, none⟩ = some (.slice none 0 0) := (blk_cell BR 3).trans rfl
                            have ft3 := blk_frozen BT 3
                            have fr3 := blk_frozen BR 3
                            have kt4 : w1.cell? ⟨gb215, 4, none⟩ = some (.int .i64 a1) := (blk_cell BT 4).trans rfl
                            have kr4 : w1.cell? ⟨gb193, 4, none⟩ = some (.int .i64 0) := (blk_cell BR 4).trans rfl
                            have ft4 := blk_frozen BT 4
                            have fr4 := blk_frozen BR 4
                            have HBT := Aside0.mk BT
                            have HBR := Aside0.mk BR
                            have HHB := Aside0.mk HB1
                            clear BT BR HB1
                            go_wp2_with fail
                            refine bodyPost_ret (results_ctt rfl _ _ gb193 33 #[.int .i64 6, .string (a0.extract (a1 : Int).toNat (x8_20 : Int).toNat), .int .i64 0, .slice none 0 0, .int .i64 a1] (0, 0) _ rfl (by refine blk_put (cs := #[.int .i64 6, .string (a0.extract (a1 : Int).toNat (x8_20 : Int).toNat), .int .i64 0, .slice none 0 0, .int .i64 0]) ?_ 4 _ rfl; refine blk_put (cs := #[.int .i64 6, .string (a0.extract (a1 : Int).toNat (x8_20 : Int).toNat), .int .i64 0, .slice none 0 0, .int .i64 0]) ?_ 3 _ rfl; refine blk_put (cs := #[.int .i64 6, .string (a0.extract (a1 : Int).toNat (x8_20 : Int).toNat), .int .i64 0, .slice none 0 0, .int .i64 0]) ?_ 2 _ rfl; refine blk_put (cs := #[.int .i64 6, .string (⟨#[]⟩ : ByteArray), .int .i64 0, .slice none 0 0, .int .i64 0]) ?_ 1 _ rfl; refine blk_put (cs := #[.int .i64 0, .string (⟨#[]⟩ : ByteArray), .int .i64 0, .slice none 0 0, .int .i64 0]) ?_ 0 _ rfl; refine blk_far ?_ NB193_215.out _; exact HBR.out) Tryd.underlying33 rfl (by kernel_rfl)) rfl ?_
                            exact ⟨_, rfl, Kd.R_nil _ _ _ _ _, by repeat (first | (with_reducible first | exact HHB.out | refine below_set ?_ GE193.out | refine below_set ?_ GE215.out) | exact HHB.out)⟩
                          · replace c39 := Bool.eq_false_iff.mpr c39
                            subst c39
                            have H1 : (some (2, a0.extract (a1 : Int).toNat (x8_20 : Int).toNat, 0, ([] : List Int), a1, x8_20, 0)) = some (r1, r2, r3, r4, r5, r6, r7) := by rw [if_neg (show ¬ (false = true) by decide)] at H; exact H
                            clear H
                            have H := H1
                            clear H1
                            simp only [Option.some.injEq, Prod.mk.injEq] at H
                            obtain ⟨rfl, rfl, rfl, rfl, rfl, rfl, rfl⟩ := H
                            go_wp2_with (first | ((with_reducible refine gate_dst (N := 9) rfl ?_); refine box_event ?hg (N := 9) ?hd (cs := #[.int .i64 0, .string (⟨#[]⟩ : ByteArray), .int .i64 0, .slice none 0 0, .int .i64 0]) (t := 33) ?hr ?_; (case hd => rfl); (case hg => rfl); (case hr => first | (go_simp; done) | (go_simp; rfl)); intro gb215 hg w44 hbox hb; have n0_ := Aside0.mk (blk_below (g := gb193) (o := .cells #[.int .i64 0, .string (⟨#[]⟩ : ByteArray), .int .i64 0, .slice none 0 0, .int .i64 0] 33 (0, 0)) (by (with_reducible repeat (first | refine blk_drewN ?_ _ | refine blk_drew ?_ | refine blk_alloc ?_ _)); exact BK193.out) hb); have n1_ := Aside0.mk (below_step (by repeat (first | (with_reducible first | exact HB.out | apply below_alloc | apply pw_below_drewN | apply below_drew1 | refine below_set ?_ GE193.out) | exact HB.out)) hb); have n2_ := Aside0.mk (hbox); have n3_ := Aside0.mk ((by rw [hg]; exact (below_size (by repeat (first | (with_reducible first | exact HB.out | apply below_alloc | apply pw_below_drewN | apply below_drew1 | refine below_set ?_ GE193.out) | exact HB.out))) : w.heap.size ≤ gb215)); have n4_ := Aside0.mk ((by rw [hg]; exact (below_size (by repeat (first | (with_reducible first | exact HB.out | apply below_alloc | apply pw_below_drewN | apply below_drew1 | refine below_set ?_ GE193.out) | exact HB.out))) : w.heap.size ≤ gb215)); have n5_ := Aside0.mk ((by rw [hg]; exact Nat.ne_of_lt (blk_lt (g := gb193) (o := .cells #[.int .i64 0, .string (⟨#[]⟩ : ByteArray), .int .i64 0, .slice none 0 0, .int .i64 0] 33 (0, 0)) (by (with_reducible repeat (first | refine blk_drewN ?_ _ | refine blk_drew ?_ | refine blk_alloc ?_ _)); exact BK193.out)) : gb193 ≠ gb215)); have n6_ := Aside0.mk ((by rw [hg]; exact Nat.ne_of_gt (blk_lt (g := gb193) (o := .cells #[.int .i64 0, .string (⟨#[]⟩ : ByteArray), .int .i64 0, .slice none 0 0, .int .i64 0] 33 (0, 0)) (by (with_reducible repeat (first | refine blk_drewN ?_ _ | refine blk_drew ?_ | refine blk_alloc ?_ _)); exact BK193.out)) : gb215 ≠ gb193)); clear BK193; clear HB; have BK193 := n0_; have HB := n1_; have BK215 := n2_; have GW215 := n3_; have GE215 := n4_; have NB193_215 := n5_; have NB215_193 := n6_; clear n0_ n1_ n2_ n3_ n4_ n5_ n6_; clear hb hbox hg; have hnb45 := NB215_193.out; have hnc45 := NB193_215.out; have hcz46_0 : w44.cell? ⟨gb215, 0, none⟩ = some (.int .i64 0) := (blk_cell BK215.out 0).trans rfl; have hcz46_1 : w44.cell? ⟨gb215, 1, none⟩ = some (.string (⟨#[]⟩ : ByteArray)) := (blk_cell BK215.out 1).trans rfl; have hcz46_2 : w44.cell? ⟨gb215, 2, none⟩ = some (.int .i64 0) := (blk_cell BK215.out 2).trans rfl; have hcz46_3 : w44.cell? ⟨gb215, 3, none⟩ = some (.slice none 0 0) := (blk_cell BK215.out 3).trans rfl; have hcz46_4 : w44.cell? ⟨gb215, 4, none⟩ = some (.int .i64 0) := (blk_cell BK215.out 4).trans rfl; have hfz46_0 := blk_frozen BK215.out 0; have hfz46_1 := blk_frozen BK215.out 1; have hfz46_2 := blk_frozen BK215.out 2; have hfz46_3 := blk_frozen BK215.out 3; have hfz46_4 := blk_frozen BK215.out 4) | ((with_reducible refine gate_callee (f := 40) rfl ?_); refine goesL_ (some 59) rfl rfl Tryd.func40 (by kernel_rfl) rfl #[.int .u8 (bt a0 a1), .int .u8 97, .int .u8 122] rfl (by (try simp only [List.map_toArray, List.map_cons, List.map_nil]); first | done | rfl | (simp only [List.length_drop, List.length_take]; rfl)) ?_; (with_reducible refine (rookeryref15_between.calls (bt a0 a1) 97 122 true _ A36.out).mono ?_); rintro e w' ⟨rfl, ⟨nd, rfl⟩⟩; refine ⟨_, rfl, ?_⟩))
                            refine (rookeryref15_Word.calls (a0.extract (a1 : Int).toNat (x8_20 : Int).toNat) false _ A38.out).mono ?_
                            rintro e w1 ⟨rfl, ⟨nd2, hw1⟩⟩
                            have BT : w1.heap[gb215]? = some (.cells #[.int .i64 2, .string (a0.extract (a1 : Int).toNat (x8_20 : Int).toNat), .int .i64 0, .slice none 0 0, .int .i64 a1] 33 (0, 0)) := by
                              rw [hw1]
                              refine blk_drewN ?_ _
                              refine blk_put (cs := #[.int .i64 3, .string (a0.extract (a1 : Int).toNat (x8_20 : Int).toNat), .int .i64 0, .slice none 0 0, .int .i64 a1]) ?_ 0 _ rfl
                              refine blk_drewN ?_ _
                              refine blk_put (cs := #[.int .i64 3, .string (a0.extract (a1 : Int).toNat (x8_20 : Int).toNat), .int .i64 0, .slice none 0 0, .int .i64 0]) ?_ 4 _ rfl
                              refine blk_put (cs := #[.int .i64 3, .string (a0.extract (a1 : Int).toNat (x8_20 : Int).toNat), .int .i64 0, .slice none 0 0, .int .i64 0]) ?_ 3 _ rfl
                              refine blk_put (cs := #[.int .i64 3, .string (a0.extract (a1 : Int).toNat (x8_20 : Int).toNat), .int .i64 0, .slice none 0 0, .int .i64 0]) ?_ 2 _ rfl
                              refine blk_put (cs := #[.int .i64 3, .string (⟨#[]⟩ : ByteArray), .int .i64 0, .slice none 0 0, .int .i64 0]) ?_ 1 _ rfl
                              refine blk_put (cs := #[.int .i64 0, .string (⟨#[]⟩ : ByteArray), .int .i64 0, .slice none 0 0, .int .i64 0]) ?_ 0 _ rfl
                              exact BK215.out
                            have BR : w1.heap[gb193]? = some (.cells #[.int .i64 0, .string (⟨#[]⟩ : ByteArray), .int .i64 0, .slice none 0 0, .int .i64 0] 33 (0, 0)) := by
                              rw [hw1]
                              refine blk_drewN ?_ _
                              refine blk_far ?_ NB193_215.out _
                              refine blk_drewN ?_ _
                              refine blk_far (blk_far (blk_far (blk_far (blk_far ?_ NB193_215.out _) NB193_215.out _) NB193_215.out _) NB193_215.out _) NB193_215.out _
                              exact BK193.out
                            have HB1 : Below w.heap.size w w1 := by
                              rw [hw1]
                              repeat (first | (with_reducible first | exact HB.out | apply below_alloc | apply pw_below_drewN | apply below_drew1 | refine below_set ?_ GE193.out | refine below_set ?_ GE215.out) | exact HB.out)
                            try clear hcz42_0
                            try clear hfz42_0
                            try clear hcz42_1
                            try clear hfz42_1
                            try clear hcz42_2
                            try clear hfz42_2
                            try clear hcz42_3
                            try clear hfz42_3
                            try clear hcz42_4
                            try clear hfz42_4
                            clear hw1 BK193 BK215 HB A36 A38
                            have kt0 : w1.cell? ⟨gb215, 0, none⟩ = some (.int .i64 2) := (blk_cell BT 0).trans rfl
                            have kr0 : w1.cell? ⟨gb193, 0, none⟩ = some (.int .i64 0) := (blk_cell BR 0).trans rfl
                            have ft0 := blk_frozen BT 0
                            have fr0 := blk_frozen BR 0
                            have kt1 : w1.cell? ⟨gb215, 1, none⟩ = some (.string (a0.extract (a1 : Int).toNat (x8_20 : Int).toNat)) := (blk_cell BT 1).trans rfl
                            have kr1 : w1.cell? ⟨gb193, 1, none⟩ = some (.string (⟨#[]⟩ : ByteArray)) := (blk_cell BR 1).trans rfl
                            have ft1 := blk_frozen BT 1
                            have fr1 := blk_frozen BR 1
                            have kt2 : w1.cell? ⟨gb215, 2, none⟩ = some (.int .i64 0) := (blk_cell BT 2).trans rfl
                            have kr2 : w1.cell? ⟨gb193, 2, none⟩ = some (.int .i64 0) := (blk_cell BR 2).trans rfl
                            have ft2 := blk_frozen BT 2
                            have fr2 := blk_frozen BR 2
                            have kt3 : w1.cell? ⟨gb215, 3, none⟩ = some (.slice none 0 0) := (blk_cell BT 3).trans rfl
                            have kr3 : w1.cell? ⟨gb193, 3, none⟩ = some (.slice none 0 0) := (blk_cell BR 3).trans rfl
                            have ft3 := blk_frozen BT 3
                            have fr3 := blk_frozen BR 3
                            have kt4 : w1.cell? ⟨gb215, 4, none⟩ = some (.int .i64 a1) := (blk_cell BT 4).trans rfl
                            have kr4 : w1.cell? ⟨gb193, 4, none⟩ = some (.int .i64 0) := (blk_cell BR 4).trans rfl
                            have ft4 := blk_frozen BT 4
                            have fr4 := blk_frozen BR 4
                            have HBT := Aside0.mk BT
                            have HBR := Aside0.mk BR
                            have HHB := Aside0.mk HB1
                            clear BT BR HB1
                            go_wp2_with fail
                            refine bodyPost_ret (results_ctt rfl _ _ gb193 33 #[.int .i64 2, .string (a0.extract (a1 : Int).toNat (x8_20 : Int).toNat), .int .i64 0, .slice none 0 0, .int .i64 a1] (0, 0) _ rfl (by refine blk_put (cs := #[.int .i64 2, .string (a0.extract (a1 : Int).toNat (x8_20 : Int).toNat), .int .i64 0, .slice none 0 0, .int .i64 0]) ?_ 4 _ rfl; refine blk_put (cs := #[.int .i64 2, .string (a0.extract (a1 : Int).toNat (x8_20 : Int).toNat), .int .i64 0, .slice none 0 0, .int .i64 0]) ?_ 3 _ rfl; refine blk_put (cs := #[.int .i64 2, .string (a0.extract (a1 : Int).toNat (x8_20 : Int).toNat), .int .i64 0, .slice none 0 0, .int .i64 0]) ?_ 2 _ rfl; refine blk_put (cs := #[.int .i64 2, .string (⟨#[]⟩ : ByteArray), .int .i64 0, .slice none 0 0, .int .i64 0]) ?_ 1 _ rfl; refine blk_put (cs := #[.int .i64 0, .string (⟨#[]⟩ : ByteArray), .int .i64 0, .slice none 0 0, .int .i64 0]) ?_ 0 _ rfl; exact HBR.out) Tryd.underlying33 rfl (by kernel_rfl)) rfl ?_
                            exact ⟨_, rfl, Kd.R_nil _ _ _ _ _, by repeat (first | (with_reducible first | exact HHB.out | refine below_set ?_ GE193.out | refine below_set ?_ GE215.out) | exact HHB.out)⟩
                        · replace c37 := Bool.eq_false_iff.mpr c37
                          subst c37
                          have H1 : (some (3, a0.extract (a1 : Int).toNat (x8_20 : Int).toNat, 0, ([] : List Int), a1, x8_20, 0)) = some (r1, r2, r3, r4, r5, r6, r7) := by rw [if_neg (show ¬ (false = true) by decide)] at H; exact H
                          clear H
                          have H := H1
                          clear H1
                          simp only [Option.some.injEq, Prod.mk.injEq] at H
                          obtain ⟨rfl, rfl, rfl, rfl, rfl, rfl, rfl⟩ := H
                          go_wp2_with (first | ((with_reducible refine gate_dst (N := 9) rfl ?_); refine box_event ?hg (N := 9) ?hd (cs := #[.int .i64 0, .string (⟨#[]⟩ : ByteArray), .int .i64 0, .slice none 0 0, .int .i64 0]) (t := 33) ?hr ?_; (case hd => rfl); (case hg => rfl); (case hr => first | (go_simp; done) | (go_simp; rfl)); intro gb215 hg w48 hbox hb; have n0_ := Aside0.mk (blk_below (g := gb193) (o := .cells #[.int .i64 0, .string (⟨#[]⟩ : ByteArray), .int .i64 0, .slice none 0 0, .int .i64 0] 33 (0, 0)) (by (with_reducible repeat (first | refine blk_drewN ?_ _ | refine blk_drew ?_ | refine blk_alloc ?_ _)); exact BK193.out) hb); have n1_ := Aside0.mk (below_step (by repeat (first | (with_reducible first | exact HB.out | apply below_alloc | apply pw_below_drewN | apply below_drew1 | refine below_set ?_ GE193.out) | exact HB.out)) hb); have n2_ := Aside0.mk (hbox); have n3_ := Aside0.mk ((by rw [hg]; exact (below_size (by repeat (first | (with_reducible first | exact HB.out | apply below_alloc | apply pw_below_drewN | apply below_drew1 | refine below_set ?_ GE193.out) | exact HB.out))) : w.heap.size ≤ gb215)); have n4_ := Aside0.mk ((by rw [hg]; exact (below_size (by repeat (first | (with_reducible first | exact HB.out | apply below_alloc | apply pw_below_drewN | apply below_drew1 | refine below_set ?_ GE193.out) | exact HB.out))) : w.heap.size ≤ gb215)); have n5_ := Aside0.mk ((by rw [hg]; exact Nat.ne_of_lt (blk_lt (g := gb193) (o := .cells #[.int .i64 0, .string (⟨#[]⟩ : ByteArray), .int .i64 0, .slice none 0 0, .int .i64 0] 33 (0, 0)) (by (with_reducible repeat (first | refine blk_drewN ?_ _ | refine blk_drew ?_ | refine blk_alloc ?_ _)); exact BK193.out)) : gb193 ≠ gb215)); have n6_ := Aside0.mk ((by rw [hg]; exact Nat.ne_of_gt (blk_lt (g := gb193) (o := .cells #[.int .i64 0, .string (⟨#[]⟩ : ByteArray), .int .i64 0, .slice none 0 0, .int .i64 0] 33 (0, 0)) (by (with_reducible repeat (first | refine blk_drewN ?_ _ | refine blk_drew ?_ | refine blk_alloc ?_ _)); exact BK193.out)) : gb215 ≠ gb193)); clear BK193; clear HB; have BK193 := n0_; have HB := n1_; have BK215 := n2_; have GW215 := n3_; have GE215 := n4_; have NB193_215 := n5_; have NB215_193 := n6_; clear n0_ n1_ n2_ n3_ n4_ n5_ n6_; clear hb hbox hg; have hnb49 := NB215_193.out; have hnc49 := NB193_215.out; have hcz50_0 : w48.cell? ⟨gb215, 0, none⟩ = some (.int .i64 0) := (blk_cell BK215.out 0).trans rfl; have hcz50_1 : w48.cell? ⟨gb215, 1, none⟩ = some (.string (⟨#[]⟩ : ByteArray)) := (blk_cell BK215.out 1).trans rfl; have hcz50_2 : w48.cell? ⟨gb215, 2, none⟩ = some (.int .i64 0) := (blk_cell BK215.out 2).trans rfl; have hcz50_3 : w48.cell? ⟨gb215, 3, none⟩ = some (.slice none 0 0) := (blk_cell BK215.out 3).trans rfl; have hcz50_4 : w48.cell? ⟨gb215, 4, none⟩ = some (.int .i64 0) := (blk_cell BK215.out 4).trans rfl; have hfz50_0 := blk_frozen BK215.out 0; have hfz50_1 := blk_frozen BK215.out 1; have hfz50_2 := blk_frozen BK215.out 2; have hfz50_3 := blk_frozen BK215.out 3; have hfz50_4 := blk_frozen BK215.out 4) | ((with_reducible refine gate_callee (f := 40) rfl ?_); refine goesL_ (some 59) rfl rfl Tryd.func40 (by kernel_rfl) rfl #[.int .u8 (bt a0 a1), .int .u8 97, .int .u8 122] rfl (by (try simp only [List.map_toArray, List.map_cons, List.map_nil]); first | done | rfl | (simp only [List.length_drop, List.length_take]; rfl)) ?_; (with_reducible refine (rookeryref15_between.calls (bt a0 a1) 97 122 false _ A36.out).mono ?_); rintro e w' ⟨rfl, ⟨nd, rfl⟩⟩; refine ⟨_, rfl, ?_⟩; have hcz51_0 : w48.cell? ⟨gb193, 0, none⟩ = some (.int .i64 0) := (blk_cell BK193.out 0).trans rfl; have hcz51_1 : w48.cell? ⟨gb193, 1, none⟩ = some (.string (⟨#[]⟩ : ByteArray)) := (blk_cell BK193.out 1).trans rfl; have hcz51_2 : w48.cell? ⟨gb193, 2, none⟩ = some (.int .i64 0) := (blk_cell BK193.out 2).trans rfl; have hcz51_3 : w48.cell? ⟨gb193, 3, none⟩ = some (.slice none 0 0) := (blk_cell BK193.out 3).trans rfl; have hcz51_4 : w48.cell? ⟨gb193, 4, none⟩ = some (.int .i64 0) := (blk_cell BK193.out 4).trans rfl; have hfz51_0 := blk_frozen BK193.out 0; have hfz51_1 := blk_frozen BK193.out 1; have hfz51_2 := blk_frozen BK193.out 2; have hfz51_3 := blk_frozen BK193.out 3; have hfz51_4 := blk_frozen BK193.out 4))
                          refine bodyPost_ret (results_ctt rfl _ _ gb193 33 #[.int .i64 3, .string (a0.extract (a1 : Int).toNat (x8_20 : Int).toNat), .int .i64 0, .slice none 0 0, .int .i64 a1] (0, 0) _ rfl (by (with_reducible repeat (first | refine blk_drewN ?_ _ | refine blk_drew ?_ | refine blk_alloc ?_ _)); refine blk_put (cs := #[.int .i64 3, .string (a0.extract (a1 : Int).toNat (x8_20 : Int).toNat), .int .i64 0, .slice none 0 0, .int .i64 0]) ?_ 4 _ rfl; (with_reducible repeat (first | refine blk_drewN ?_ _ | refine blk_drew ?_ | refine blk_alloc ?_ _)); refine blk_put (cs := #[.int .i64 3, .string (a0.extract (a1 : Int).toNat (x8_20 : Int).toNat), .int .i64 0, .slice none 0 0, .int .i64 0]) ?_ 3 _ rfl; (with_reducible repeat (first | refine blk_drewN ?_ _ | refine blk_drew ?_ | refine blk_alloc ?_ _)); refine blk_put (cs := #[.int .i64 3, .string (a0.extract (a1 : Int).toNat (x8_20 : Int).toNat), .int .i64 0, .slice none 0 0, .int .i64 0]) ?_ 2 _ rfl; (with_reducible repeat (first | refine blk_drewN ?_ _ | refine blk_drew ?_ | refine blk_alloc ?_ _)); refine blk_put (cs := #[.int .i64 3, .string (⟨#[]⟩ : ByteArray), .int .i64 0, .slice none 0 0, .int .i64 0]) ?_ 1 _ rfl; (with_reducible repeat (first | refine blk_drewN ?_ _ | refine blk_drew ?_ | refine blk_alloc ?_ _)); refine blk_put (cs := #[.int .i64 0, .string (⟨#[]⟩ : ByteArray), .int .i64 0, .slice none 0 0, .int .i64 0]) ?_ 0 _ rfl; (with_reducible repeat (first | refine blk_drewN ?_ _ | refine blk_drew ?_ | refine blk_alloc ?_ _)); refine blk_far ?_ NB193_215.out _; (with_reducible repeat (first | refine blk_drewN ?_ _ | refine blk_drew ?_ | refine blk_alloc ?_ _)); refine blk_far ?_ NB193_215.out _; (with_reducible repeat (first | refine blk_drewN ?_ _ | refine blk_drew ?_ | refine blk_alloc ?_ _)); refine blk_far ?_ NB193_215.out _; (with_reducible repeat (first | refine blk_drewN ?_ _ | refine blk_drew ?_ | refine blk_alloc ?_ _)); refine blk_far ?_ NB193_215.out _; (with_reducible repeat (first | refine blk_drewN ?_ _ | refine blk_drew ?_ | refine blk_alloc ?_ _)); refine blk_far ?_ NB193_215.out _; (with_reducible repeat (first | refine blk_drewN ?_ _ | refine blk_drew ?_ | refine blk_alloc ?_ _)); exact BK193.out) Tryd.underlying33 rfl (by kernel_rfl)) rfl ?_
                          exact ⟨_, by first | rfl | (simp [errW_none, errW_some] <;> rfl) | (simp [*, errW_none, errW_some] <;> rfl), by first | exact Kd.R_nil _ _ _ _ _ | exact Kd.N_nil _ _ _ _ _ | exact Kd.V_nil _ _ _ _ _ | exact Kd.Q_nil _ _ _ _ _ | exact Kd.S_nil _ _ _ _ _, by repeat (first | (with_reducible first | exact HB.out | apply below_alloc | apply pw_below_drewN | apply below_drew1 | refine below_set ?_ GE193.out | refine below_set ?_ GE215.out) | exact HB.out)⟩
                    · rw [if_neg c30] at H
                      exact absurd H (by simp)
                  · rw [if_neg c29] at H
                    exact absurd H (by simp)
                · rw [if_neg c28] at H
                  exact absurd H (by simp)
          · replace c20 := Bool.eq_false_iff.mpr c20
            subst c20
            have H1 : (if (wrap64 (a1 + 1)) < (a0.size : Int) then (if a1 ≤ (wrap64 (a1 + 2)) then (if (wrap64 (a1 + 2)) ≤ (a0.size : Int) then (rookeryref15_token.j2 k a1 (bt a0 a1) (a0.extract (a1 : Int).toNat ((wrap64 (a1 + 2)) : Int).toNat)) else (none)) else (none)) else (rookeryref15_token.j2 k a1 (bt a0 a1) (⟨#[]⟩ : ByteArray))) = some (r1, r2, r3, r4, r5, r6, r7) := by rw [if_neg (show ¬ (false = true) by decide)] at H; exact H
            clear H
            have H := H1
            clear H1
            have HC52 := Aside0.mk H
            clear H
            go_enter Tryd.func34, Tryd.ntmps34
            go_upto_if 71 with (first | ((with_reducible refine gate_dst (N := 4) rfl ?_); refine box_event ?hg (N := 4) ?hd (cs := #[.int .i64 0, .string (⟨#[]⟩ : ByteArray), .int .i64 0, .slice none 0 0, .int .i64 0]) (t := 33) ?hr ?_; (case hd => rfl); (case hg => rfl); (case hr => first | (go_simp; done) | (go_simp; rfl)); intro gb193 hg w53 hbox hb; have n0_ := Aside0.mk (below_step (by repeat (first | (with_reducible first | exact HB.out | apply below_alloc | apply pw_below_drewN | apply below_drew1) | exact HB.out)) hb); have n1_ := Aside0.mk (hbox); have n2_ := Aside0.mk ((by rw [hg]; exact (below_size (by repeat (first | (with_reducible first | exact HB.out | apply below_alloc | apply pw_below_drewN | apply below_drew1) | exact HB.out))) : w.heap.size ≤ gb193)); have n3_ := Aside0.mk ((by rw [hg]; exact (below_size (by repeat (first | (with_reducible first | exact HB.out | apply below_alloc | apply pw_below_drewN | apply below_drew1) | exact HB.out))) : w.heap.size ≤ gb193)); clear HB; have HB := n0_; have BK193 := n1_; have GW193 := n2_; have GE193 := n3_; clear n0_ n1_ n2_ n3_; clear hb hbox hg; have p5 : 0 ≤ (a1 : Int) := of_decide_eq_true (by first | (with_reducible assumption) | assumption); have q5 : a1 < (a0.size : Int) := of_decide_eq_true (by first | (with_reducible assumption) | assumption); have hx5 := bt_at a0 a1; replace p5 := eq_true p5; replace q5 := eq_true q5) | ((with_reducible refine gate_callee (f := 40) rfl ?_); refine goesL_ (some 16) rfl rfl Tryd.func40 (by kernel_rfl) rfl #[.int .u8 (bt a0 a1), .int .u8 48, .int .u8 57] rfl (by (try simp only [List.map_toArray, List.map_cons, List.map_nil]); first | done | rfl | (simp only [List.length_drop, List.length_take]; rfl)) ?_; (with_reducible refine (rookeryref15_between.calls (bt a0 a1) 48 57 false _ A6.out).mono ?_); rintro e w' ⟨rfl, ⟨nd, rfl⟩⟩; refine ⟨_, rfl, ?_⟩) | ((with_reducible refine gate_callee (f := 59) rfl ?_); refine goesL_ (some 32) rfl rfl Tryd.func59 (by kernel_rfl) rfl #[.int .u8 (bt a0 a1)] rfl (by (try simp only [List.map_toArray, List.map_cons, List.map_nil]); first | done | rfl | (simp only [List.length_drop, List.length_take]; rfl)) ?_; (with_reducible refine (rookeryref15_name.calls (bt a0 a1) false _ A19.out).mono ?_); rintro e w' ⟨rfl, ⟨nd, rfl⟩⟩; refine ⟨_, rfl, ?_⟩))
            (try simp only [Act.put, List.setIfInBounds_toArray, List.set_cons_zero, List.set_cons_succ])
            go_cut [10] (fun v10 wc => ∃ (kq : Nat) (x10_51 : ByteArray), v10 = .string x10_51 ∧ Aside0 (rookeryref15_token.j2 kq a1 (bt a0 a1) x10_51 = some (r1, r2, r3, r4, r5, r6, r7)) ∧ Aside0 (kq ≤ k) ∧ Aside0 (wc.heap[gb193]? = some (.cells #[.int .i64 0, .string (⟨#[]⟩ : ByteArray), .int .i64 0, (.slice none 0 0), .int .i64 0] 33 (0, 0))) ∧ Aside0 (Below w.heap.size w wc))
            case first =>
              have H := HC52.out
              clear HC52
              by_cases c54 : (wrap64 (a1 + 1)) < (a0.size : Int)
              · rw [if_pos c54] at H
                have c54b0 : decide ((wrap64 (a1 + 1)) < (a0.size : Int)) = true := decide_eq_true c54
                clear c54
                (first | rw [c54b0] | (simp only [i64_w, i32_w]; rw [c54b0]) | skip)
                have c55b0 := eq_true (of_decide_eq_true (by first | (with_reducible assumption) | assumption) : 0 ≤ a1)
                by_cases c56 : a1 ≤ (wrap64 (a1 + 2))
                · rw [if_pos c56] at H
                  have c56b0 := eq_true c56
                  have c56b1 : decide (a1 ≤ (wrap64 (a1 + 2))) = true := decide_eq_true c56
                  by_cases c57 : (wrap64 (a1 + 2)) ≤ (a0.size : Int)
                  · rw [if_pos c57] at H
                    have c57b0 := eq_true c57
                    have c57b1 : decide ((wrap64 (a1 + 2)) ≤ (a0.size : Int)) = true := decide_eq_true c57
                    have H' := Aside0.mk H
                    clear H
                    go_wp2
                    go_meet
                    case rel => exact ⟨_, (a0.extract (a1 : Int).toNat ((wrap64 (a1 + 2)) : Int).toNat), (by first | rfl | (simp; done) | (simp [*]; done)), H', ⟨by first | omega | exact Nat.le_refl _⟩, ⟨by (with_reducible repeat (first | refine blk_drewN ?_ _ | refine blk_drew ?_ | refine blk_alloc ?_ _)); exact BK193.out⟩, ⟨by repeat (first | (with_reducible first | exact HB.out | apply below_alloc | apply pw_below_drewN | apply below_drew1 | refine below_set ?_ GE193.out) | exact HB.out)⟩⟩
                  · rw [if_neg c57] at H
                    exact absurd H (by simp)
                · rw [if_neg c56] at H
                  exact absurd H (by simp)
              · rw [if_neg c54] at H
                have c54b0 : decide ((wrap64 (a1 + 1)) < (a0.size : Int)) = false := decide_eq_false c54
                clear c54
                (first | rw [c54b0] | (simp only [i64_w, i32_w]; rw [c54b0]) | skip)
                have H' := Aside0.mk H
                clear H
                go_wp2
                go_meet
                case rel => exact ⟨_, ((⟨#[]⟩ : ByteArray)), (by first | rfl | (simp; done) | (simp [*]; done)), H', ⟨by first | omega | exact Nat.le_refl _⟩, ⟨by (with_reducible repeat (first | refine blk_drewN ?_ _ | refine blk_drew ?_ | refine blk_alloc ?_ _)); exact BK193.out⟩, ⟨by repeat (first | (with_reducible first | exact HB.out | apply below_alloc | apply pw_below_drewN | apply below_drew1 | refine below_set ?_ GE193.out) | exact HB.out)⟩⟩
            case rest =>
              clear HC52
              try clear c1
              try clear c2
              try clear p2
              try clear q2
              try clear hx2
              try clear c3
              try clear c3b0
              try clear c4
              try clear c4b0
              try clear c5
              try clear p5
              try clear q5
              try clear hx5
              try clear p6
              try clear c7
              try clear c13
              try clear c13b0
              try clear c13b1
              try clear c20
              try clear c23
              try clear c23b0
              try clear c24
              try clear c24b0
              try clear p25
              try clear q25
              try clear hx25
              try clear c27
              try clear c28
              try clear c28b0
              try clear c28b1
              try clear c29
              try clear c29b0
              try clear c29b1
              try clear c30
              try clear c30b0
              try clear c30b1
              try clear c31
              try clear c31b0
              try clear c33
              try clear c34
              try clear c37
              try clear c39
              try clear c40
              try clear c41
              try clear c45
              try clear c49
              try clear c54
              try clear c54b0
              try clear c55
              try clear c55b0
              try clear c56
              try clear c56b0
              try clear c56b1
              try clear c57
              try clear c57b0
              try clear c57b1
              try clear hcz11_0
              try clear hcz11_1
              try clear hcz11_2
              try clear hcz11_3
              try clear hcz11_4
              try clear hcz17_0
              try clear hcz17_1
              try clear hcz17_2
              try clear hcz17_3
              try clear hcz17_4
              try clear hcz34_0
              try clear hcz34_1
              try clear hcz34_2
              try clear hcz34_3
              try clear hcz34_4
              try clear hcz35_0
              try clear hcz35_1
              try clear hcz35_2
              try clear hcz35_3
              try clear hcz35_4
              try clear hcz42_0
              try clear hcz42_1
              try clear hcz42_2
              try clear hcz42_3
              try clear hcz42_4
              try clear hcz43_0
              try clear hcz43_1
              try clear hcz43_2
              try clear hcz43_3
              try clear hcz43_4
              try clear hcz46_0
              try clear hcz46_1
              try clear hcz46_2
              try clear hcz46_3
              try clear hcz46_4
              try clear hcz47_0
              try clear hcz47_1
              try clear hcz47_2
              try clear hcz47_3
              try clear hcz47_4
              try clear hcz50_0
              try clear hcz50_1
              try clear hcz50_2
              try clear hcz50_3
              try clear hcz50_4
              try clear hcz51_0
              try clear hcz51_1
              try clear hcz51_2
              try clear hcz51_3
              try clear hcz51_4
              try clear hfz11_0
              try clear hfz11_1
              try clear hfz11_2
              try clear hfz11_3
              try clear hfz11_4
              try clear hfz17_0
              try clear hfz17_1
              try clear hfz17_2
              try clear hfz17_3
              try clear hfz17_4
              try clear hfz34_0
              try clear hfz34_1
              try clear hfz34_2
              try clear hfz34_3
              try clear hfz34_4
              try clear hfz35_0
              try clear hfz35_1
              try clear hfz35_2
              try clear hfz35_3
              try clear hfz35_4
              try clear hfz42_0
              try clear hfz42_1
              try clear hfz42_2
              try clear hfz42_3
              try clear hfz42_4
              try clear hfz43_0
              try clear hfz43_1
              try clear hfz43_2
              try clear hfz43_3
              try clear hfz43_4
              try clear hfz46_0
              try clear hfz46_1
              try clear hfz46_2
              try clear hfz46_3
              try clear hfz46_4
              try clear hfz47_0
              try clear hfz47_1
              try clear hfz47_2
              try clear hfz47_3
              try clear hfz47_4
              try clear hfz50_0
              try clear hfz50_1
              try clear hfz50_2
              try clear hfz50_3
              try clear hfz50_4
              try clear hfz51_0
              try clear hfz51_1
              try clear hfz51_2
              try clear hfz51_3
              try clear hfz51_4
              try clear p2
              try clear p25
              try clear p5
              try clear p6
              try clear q2
              try clear q25
              try clear q5
              obtain ⟨kq, x10_51, rfl, HA, HJ51, BK193, HB⟩ := hcut
              cases kq with
              | zero => exact absurd HA.out (by simp [rookeryref15_token.j2])
              | succ kj51 =>
                have H := HA.out
                clear HA
                simp only [rookeryref15_token.j2] at H
                have HC58 := Aside0.mk H
                clear H
                go_upto_region 21 with (fail)
                go_cut [94] (fun v94 wc => ∃ (kq : Nat) (x94_57 : Bool), v94 = .bool x94_57 ∧ Aside0 (rookeryref15_token.j3 kq a1 (bt a0 a1) x10_51 x94_57 = some (r1, r2, r3, r4, r5, r6, r7)) ∧ Aside0 (kq ≤ kj51) ∧ Aside0 (wc.heap[gb193]? = some (.cells #[.int .i64 0, .string (⟨#[]⟩ : ByteArray), .int .i64 0, (.slice none 0 0), .int .i64 0] 33 (0, 0))) ∧ Aside0 (Below w.heap.size w wc))
                case first =>
                  have H := HC58.out
                  clear HC58
                  by_cases c59 : x10_51.toList = ([45, 62] : List UInt8)
                  · rw [if_pos c59] at H
                    have c59b0 : (x10_51.toList == ([45, 62] : List UInt8)) = true := beq_iff_eq.mpr c59
                    have c59b1 : (x10_51.toList != ([45, 62] : List UInt8)) = false := bne_eq_false_iff_eq.mpr c59
                    clear c59
                    (first | rw [c59b0] | (simp only [i64_w, i32_w]; rw [c59b0]) | skip)
                    have H' := Aside0.mk H
                    clear H
                    go_wp2
                    go_meet
                    case rel => exact ⟨_, (true), (by first | rfl | (simp; done) | (simp [*]; done)), H', ⟨by have := HJ51.out; first | omega | exact Nat.le_refl _⟩, ⟨by (with_reducible repeat (first | refine blk_drewN ?_ _ | refine blk_drew ?_ | refine blk_alloc ?_ _)); exact BK193.out⟩, ⟨by repeat (first | (with_reducible first | exact HB.out | apply below_alloc | apply pw_below_drewN | apply below_drew1 | refine below_set ?_ GE193.out) | exact HB.out)⟩⟩
                  · rw [if_neg c59] at H
                    have c59b0 : (x10_51.toList == ([45, 62] : List UInt8)) = false := beq_eq_false_iff_ne.mpr c59
                    have c59b1 : (x10_51.toList != ([45, 62] : List UInt8)) = true := bne_iff_ne.mpr c59
                    (first | rw [c59b0] | (simp only [i64_w, i32_w]; rw [c59b0]) | skip)
                    by_cases c60 : x10_51.toList = ([61, 61] : List UInt8)
                    · rw [if_pos c60] at H
                      have c60b0 : (x10_51.toList == ([61, 61] : List UInt8)) = true := beq_iff_eq.mpr c60
                      have c60b1 : (x10_51.toList != ([61, 61] : List UInt8)) = false := bne_eq_false_iff_eq.mpr c60
                      clear c60
                      have H' := Aside0.mk H
                      clear H
                      go_wp2
                      go_meet
                      case rel => exact ⟨_, (true), (by first | rfl | (simp; done) | (simp [*]; done)), H', ⟨by have := HJ51.out; first | omega | exact Nat.le_refl _⟩, ⟨by (with_reducible repeat (first | refine blk_drewN ?_ _ | refine blk_drew ?_ | refine blk_alloc ?_ _)); exact BK193.out⟩, ⟨by repeat (first | (with_reducible first | exact HB.out | apply below_alloc | apply pw_below_drewN | apply below_drew1 | refine below_set ?_ GE193.out) | exact HB.out)⟩⟩
                    · rw [if_neg c60] at H
                      have c60b0 : (x10_51.toList == ([61, 61] : List UInt8)) = false := beq_eq_false_iff_ne.mpr c60
                      have c60b1 : (x10_51.toList != ([61, 61] : List UInt8)) = true := bne_iff_ne.mpr c60
                      by_cases c61 : x10_51.toList = ([47, 61] : List UInt8)
                      · rw [if_pos c61] at H
                        have c61b0 : (x10_51.toList == ([47, 61] : List UInt8)) = true := beq_iff_eq.mpr c61
                        have c61b1 : (x10_51.toList != ([47, 61] : List UInt8)) = false := bne_eq_false_iff_eq.mpr c61
                        clear c61
                        have H' := Aside0.mk H
                        clear H
                        go_wp2
                        go_meet
                        case rel => exact ⟨_, (true), (by first | rfl | (simp; done) | (simp [*]; done)), H', ⟨by have := HJ51.out; first | omega | exact Nat.le_refl _⟩, ⟨by (with_reducible repeat (first | refine blk_drewN ?_ _ | refine blk_drew ?_ | refine blk_alloc ?_ _)); exact BK193.out⟩, ⟨by repeat (first | (with_reducible first | exact HB.out | apply below_alloc | apply pw_below_drewN | apply below_drew1 | refine below_set ?_ GE193.out) | exact HB.out)⟩⟩
                      · rw [if_neg c61] at H
                        have c61b0 : (x10_51.toList == ([47, 61] : List UInt8)) = false := beq_eq_false_iff_ne.mpr c61
                        have c61b1 : (x10_51.toList != ([47, 61] : List UInt8)) = true := bne_iff_ne.mpr c61
                        by_cases c62 : x10_51.toList = ([61, 60] : List UInt8)
                        · rw [if_pos c62] at H
                          have c62b0 : (x10_51.toList == ([61, 60] : List UInt8)) = true := beq_iff_eq.mpr c62
                          have c62b1 : (x10_51.toList != ([61, 60] : List UInt8)) = false := bne_eq_false_iff_eq.mpr c62
                          clear c62
                          have H' := Aside0.mk H
                          clear H
                          go_wp2
                          go_meet
                          case rel => exact ⟨_, (true), (by first | rfl | (simp; done) | (simp [*]; done)), H', ⟨by have := HJ51.out; first | omega | exact Nat.le_refl _⟩, ⟨by (with_reducible repeat (first | refine blk_drewN ?_ _ | refine blk_drew ?_ | refine blk_alloc ?_ _)); exact BK193.out⟩, ⟨by repeat (first | (with_reducible first | exact HB.out | apply below_alloc | apply pw_below_drewN | apply below_drew1 | refine below_set ?_ GE193.out) | exact HB.out)⟩⟩
                        · rw [if_neg c62] at H
                          have c62b0 : (x10_51.toList == ([61, 60] : List UInt8)) = false := beq_eq_false_iff_ne.mpr c62
                          have c62b1 : (x10_51.toList != ([61, 60] : List UInt8)) = true := bne_iff_ne.mpr c62
                          have H' := Aside0.mk H
                          clear H
                          go_wp2
                          go_meet
                          case rel => exact ⟨_, ((x10_51.toList == ([62, 61] : List UInt8))), (by first | rfl | (simp; done) | (simp [*]; done)), H', ⟨by have := HJ51.out; first | omega | exact Nat.le_refl _⟩, ⟨by (with_reducible repeat (first | refine blk_drewN ?_ _ | refine blk_drew ?_ | refine blk_alloc ?_ _)); exact BK193.out⟩, ⟨by repeat (first | (with_reducible first | exact HB.out | apply below_alloc | apply pw_below_drewN | apply below_drew1 | refine below_set ?_ GE193.out) | exact HB.out)⟩⟩
                case rest =>
                  clear HC58
                  try clear c1
                  try clear c2
                  try clear p2
                  try clear q2
                  try clear hx2
                  try clear c3
                  try clear c3b0
                  try clear c4
                  try clear c4b0
                  try clear c5
                  try clear p5
                  try clear q5
                  try clear hx5
                  try clear c6
                  try clear p6
                  try clear c7
                  try clear c13
                  try clear c13b0
                  try clear c13b1
                  try clear c20
                  try clear c23
                  try clear c23b0
                  try clear c24
                  try clear c24b0
                  try clear p25
                  try clear q25
                  try clear hx25
                  try clear c27
                  try clear c28
                  try clear c28b0
                  try clear c28b1
                  try clear c29
                  try clear c29b0
                  try clear c29b1
                  try clear c30
                  try clear c30b0
                  try clear c30b1
                  try clear c31
                  try clear c31b0
                  try clear c33
                  try clear c34
                  try clear c37
                  try clear c39
                  try clear c40
                  try clear c41
                  try clear c45
                  try clear c49
                  try clear c54
                  try clear c54b0
                  try clear c55
                  try clear c55b0
                  try clear c56
                  try clear c56b0
                  try clear c56b1
                  try clear c57
                  try clear c57b0
                  try clear c57b1
                  try clear c58
                  try clear c59
                  try clear c59b0
                  try clear c59b1
                  try clear c60
                  try clear c60b0
                  try clear c60b1
                  try clear c61
                  try clear c61b0
                  try clear c61b1
                  try clear c62
                  try clear c62b0
                  try clear c62b1
                  try clear hcz11_0
                  try clear hcz11_1
                  try clear hcz11_2
                  try clear hcz11_3
                  try clear hcz11_4
                  try clear hcz17_0
                  try clear hcz17_1
                  try clear hcz17_2
                  try clear hcz17_3
                  try clear hcz17_4
                  try clear hcz34_0
                  try clear hcz34_1
                  try clear hcz34_2
                  try clear hcz34_3
                  try clear hcz34_4
                  try clear hcz35_0
                  try clear hcz35_1
                  try clear hcz35_2
                  try clear hcz35_3
                  try clear hcz35_4
                  try clear hcz42_0
                  try clear hcz42_1
                  try clear hcz42_2
                  try clear hcz42_3
                  try clear hcz42_4
                  try clear hcz43_0
                  try clear hcz43_1
                  try clear hcz43_2
                  try clear hcz43_3
                  try clear hcz43_4
                  try clear hcz46_0
                  try clear hcz46_1
                  try clear hcz46_2
                  try clear hcz46_3
                  try clear hcz46_4
                  try clear hcz47_0
                  try clear hcz47_1
                  try clear hcz47_2
                  try clear hcz47_3
                  try clear hcz47_4
                  try clear hcz50_0
                  try clear hcz50_1
                  try clear hcz50_2
                  try clear hcz50_3
                  try clear hcz50_4
                  try clear hcz51_0
                  try clear hcz51_1
                  try clear hcz51_2
                  try clear hcz51_3
                  try clear hcz51_4
                  try clear hfz11_0
                  try clear hfz11_1
                  try clear hfz11_2
                  try clear hfz11_3
                  try clear hfz11_4
                  try clear hfz17_0
                  try clear hfz17_1
                  try clear hfz17_2
                  try clear hfz17_3
                  try clear hfz17_4
                  try clear hfz34_0
                  try clear hfz34_1
                  try clear hfz34_2
                  try clear hfz34_3
                  try clear hfz34_4
                  try clear hfz35_0
                  try clear hfz35_1
                  try clear hfz35_2
                  try clear hfz35_3
                  try clear hfz35_4
                  try clear hfz42_0
                  try clear hfz42_1
                  try clear hfz42_2
                  try clear hfz42_3
                  try clear hfz42_4
                  try clear hfz43_0
                  try clear hfz43_1
                  try clear hfz43_2
                  try clear hfz43_3
                  try clear hfz43_4
                  try clear hfz46_0
                  try clear hfz46_1
                  try clear hfz46_2
                  try clear hfz46_3
                  try clear hfz46_4
                  try clear hfz47_0
                  try clear hfz47_1
                  try clear hfz47_2
                  try clear hfz47_3
                  try clear hfz47_4
                  try clear hfz50_0
                  try clear hfz50_1
                  try clear hfz50_2
                  try clear hfz50_3
                  try clear hfz50_4
                  try clear hfz51_0
                  try clear hfz51_1
                  try clear hfz51_2
                  try clear hfz51_3
                  try clear hfz51_4
                  try clear p2
                  try clear p25
                  try clear p5
                  try clear p6
                  try clear q2
                  try clear q25
                  try clear q5
                  obtain ⟨kq, x94_57, rfl, HA, HJ57, BK193, HB⟩ := hcut
                  cases kq with
                  | zero => exact absurd HA.out (by simp [rookeryref15_token.j3])
                  | succ kj57 =>
                    have H := HA.out
                    clear HA
                    simp only [rookeryref15_token.j3] at H
                    by_cases c63 : x94_57 = true
                    · subst c63
                      have H1 : (some (5, x10_51, 0, ([] : List Int), a1, wrap64 (a1 + 2), 0)) = some (r1, r2, r3, r4, r5, r6, r7) := by rw [if_pos rfl] at H; exact H
                      clear H
                      have H := H1
                      clear H1
                      simp only [Option.some.injEq, Prod.mk.injEq] at H
                      obtain ⟨rfl, rfl, rfl, rfl, rfl, rfl, rfl⟩ := H
                      have hcz64_0 : wc.cell? ⟨gb193, 0, none⟩ = some (.int .i64 0) := (blk_cell BK193.out 0).trans rfl
                      have hcz64_1 : wc.cell? ⟨gb193, 1, none⟩ = some (.string (⟨#[]⟩ : ByteArray)) := (blk_cell BK193.out 1).trans rfl
                      have hcz64_2 : wc.cell? ⟨gb193, 2, none⟩ = some (.int .i64 0) := (blk_cell BK193.out 2).trans rfl
                      have hcz64_3 : wc.cell? ⟨gb193, 3, none⟩ = some (.slice none 0 0) := (blk_cell BK193.out 3).trans rfl
                      have hcz64_4 : wc.cell? ⟨gb193, 4, none⟩ = some (.int .i64 0) := (blk_cell BK193.out 4).trans rfl
                      have hfz64_0 := blk_frozen BK193.out 0
                      have hfz64_1 := blk_frozen BK193.out 1
                      have hfz64_2 := blk_frozen BK193.out 2
                      have hfz64_3 := blk_frozen BK193.out 3
                      have hfz64_4 := blk_frozen BK193.out 4
                      go_wp2
                      refine bodyPost_ret (results_ctt rfl _ _ gb193 33 #[.int .i64 5, .string x10_51, .int .i64 0, .slice none 0 0, .int .i64 a1] (0, 0) _ rfl (by (with_reducible repeat (first | refine blk_drewN ?_ _ | refine blk_drew ?_ | refine blk_alloc ?_ _)); refine blk_put (cs := #[.int .i64 5, .string x10_51, .int .i64 0, .slice none 0 0, .int .i64 0]) ?_ 4 _ rfl; (with_reducible repeat (first | refine blk_drewN ?_ _ | refine blk_drew ?_ | refine blk_alloc ?_ _)); refine blk_put (cs := #[.int .i64 5, .string x10_51, .int .i64 0, .slice none 0 0, .int .i64 0]) ?_ 3 _ rfl; (with_reducible repeat (first | refine blk_drewN ?_ _ | refine blk_drew ?_ | refine blk_alloc ?_ _)); refine blk_put (cs := #[.int .i64 5, .string x10_51, .int .i64 0, .slice none 0 0, .int .i64 0]) ?_ 2 _ rfl; (with_reducible repeat (first | refine blk_drewN ?_ _ | refine blk_drew ?_ | refine blk_alloc ?_ _)); refine blk_put (cs := #[.int .i64 5, .string (⟨#[]⟩ : ByteArray), .int .i64 0, .slice none 0 0, .int .i64 0]) ?_ 1 _ rfl; (with_reducible repeat (first | refine blk_drewN ?_ _ | refine blk_drew ?_ | refine blk_alloc ?_ _)); refine blk_put (cs := #[.int .i64 0, .string (⟨#[]⟩ : ByteArray), .int .i64 0, .slice none 0 0, .int .i64 0]) ?_ 0 _ rfl; (with_reducible repeat (first | refine blk_drewN ?_ _ | refine blk_drew ?_ | refine blk_alloc ?_ _)); exact BK193.out) Tryd.underlying33 rfl (by kernel_rfl)) rfl ?_
                      exact ⟨_, by first | rfl | (simp [errW_none, errW_some] <;> rfl) | (simp [*, errW_none, errW_some] <;> rfl), by first | exact Kd.R_nil _ _ _ _ _ | exact Kd.N_nil _ _ _ _ _ | exact Kd.V_nil _ _ _ _ _ | exact Kd.Q_nil _ _ _ _ _ | exact Kd.S_nil _ _ _ _ _, by repeat (first | (with_reducible first | exact HB.out | apply below_alloc | apply pw_below_drewN | apply below_drew1 | refine below_set ?_ GE193.out) | exact HB.out)⟩
                    · replace c63 := Bool.eq_false_iff.mpr c63
                      subst c63
                      have H1 : (rookeryref15_token.l1 kj57 a1 (bt a0 a1) 0) = some (r1, r2, r3, r4, r5, r6, r7) := by rw [if_neg (show ¬ (false = true) by decide)] at H; exact H
                      clear H
                      have H := H1
                      clear H1
                      have H' := Aside0.mk H
                      clear H
                      go_wp2
                      go_loopg [11] kj57 (fun kq v11 w' => ∃ (x11_3 : Int) (x194000_3 : Int) (x194001_3 : ByteArray) (x194002_3 : Int) (x194004_3 : Int), v11 = .int .i64 x11_3 ∧ Aside0 (rookeryref15_token.l1 kq a1 (bt a0 a1) x11_3 = some (r1, r2, r3, r4, r5, r6, r7)) ∧ Aside0 (kq ≤ kj57) ∧ Aside0 (w'.heap[gb193]? = some (.cells #[.int .i64 x194000_3, .string x194001_3, .int .i64 x194002_3, (.slice none 0 0), .int .i64 x194004_3] 33 (0, 0))) ∧ Aside0 (Below w.heap.size w w'))
                      case atStart => exact ⟨(0), (0), ((⟨#[]⟩ : ByteArray)), (0), (0), (by first | rfl | (simp; done) | (simp [*]; done)), H', ⟨Nat.le_refl _⟩, ⟨by (with_reducible repeat (first | refine blk_drewN ?_ _ | refine blk_drew ?_ | refine blk_alloc ?_ _)); exact BK193.out⟩, ⟨by repeat (first | (with_reducible first | exact HB.out | apply below_alloc | apply pw_below_drewN | apply below_drew1 | refine below_set ?_ GE193.out) | exact HB.out)⟩⟩
                      case round =>
                        clear H'
                        try clear c1
                        try clear c2
                        try clear p2
                        try clear q2
                        try clear hx2
                        try clear c3
                        try clear c3b0
                        try clear c4
                        try clear c4b0
                        try clear c5
                        try clear p5
                        try clear q5
                        try clear hx5
                        try clear c6
                        try clear p6
                        try clear c7
                        try clear c13
                        try clear c13b0
                        try clear c13b1
                        try clear c20
                        try clear c23
                        try clear c23b0
                        try clear c24
                        try clear c24b0
                        try clear p25
                        try clear q25
                        try clear hx25
                        try clear c27
                        try clear c28
                        try clear c28b0
                        try clear c28b1
                        try clear c29
                        try clear c29b0
                        try clear c29b1
                        try clear c30
                        try clear c30b0
                        try clear c30b1
                        try clear c31
                        try clear c31b0
                        try clear c33
                        try clear c34
                        try clear c37
                        try clear c39
                        try clear c40
                        try clear c41
                        try clear c45
                        try clear c49
                        try clear c54
                        try clear c54b0
                        try clear c55
                        try clear c55b0
                        try clear c56
                        try clear c56b0
                        try clear c56b1
                        try clear c57
                        try clear c57b0
                        try clear c57b1
                        try clear c58
                        try clear c59
                        try clear c59b0
                        try clear c59b1
                        try clear c60
                        try clear c60b0
                        try clear c60b1
                        try clear c61
                        try clear c61b0
                        try clear c61b1
                        try clear c62
                        try clear c62b0
                        try clear c62b1
                        try clear c63
                        try clear p64
                        try clear hcz11_0
                        try clear hcz11_1
                        try clear hcz11_2
                        try clear hcz11_3
                        try clear hcz11_4
                        try clear hcz17_0
                        try clear hcz17_1
                        try clear hcz17_2
                        try clear hcz17_3
                        try clear hcz17_4
                        try clear hcz34_0
                        try clear hcz34_1
                        try clear hcz34_2
                        try clear hcz34_3
                        try clear hcz34_4
                        try clear hcz35_0
                        try clear hcz35_1
                        try clear hcz35_2
                        try clear hcz35_3
                        try clear hcz35_4
                        try clear hcz42_0
                        try clear hcz42_1
                        try clear hcz42_2
                        try clear hcz42_3
                        try clear hcz42_4
                        try clear hcz43_0
                        try clear hcz43_1
                        try clear hcz43_2
                        try clear hcz43_3
                        try clear hcz43_4
                        try clear hcz46_0
                        try clear hcz46_1
                        try clear hcz46_2
                        try clear hcz46_3
                        try clear hcz46_4
                        try clear hcz47_0
                        try clear hcz47_1
                        try clear hcz47_2
                        try clear hcz47_3
                        try clear hcz47_4
                        try clear hcz50_0
                        try clear hcz50_1
                        try clear hcz50_2
                        try clear hcz50_3
                        try clear hcz50_4
                        try clear hcz51_0
                        try clear hcz51_1
                        try clear hcz51_2
                        try clear hcz51_3
                        try clear hcz51_4
                        try clear hcz64_0
                        try clear hcz64_1
                        try clear hcz64_2
                        try clear hcz64_3
                        try clear hcz64_4
                        try clear hfz11_0
                        try clear hfz11_1
                        try clear hfz11_2
                        try clear hfz11_3
                        try clear hfz11_4
                        try clear hfz17_0
                        try clear hfz17_1
                        try clear hfz17_2
                        try clear hfz17_3
                        try clear hfz17_4
                        try clear hfz34_0
                        try clear hfz34_1
                        try clear hfz34_2
                        try clear hfz34_3
                        try clear hfz34_4
                        try clear hfz35_0
                        try clear hfz35_1
                        try clear hfz35_2
                        try clear hfz35_3
                        try clear hfz35_4
                        try clear hfz42_0
                        try clear hfz42_1
                        try clear hfz42_2
                        try clear hfz42_3
                        try clear hfz42_4
                        try clear hfz43_0
                        try clear hfz43_1
                        try clear hfz43_2
                        try clear hfz43_3
                        try clear hfz43_4
                        try clear hfz46_0
                        try clear hfz46_1
                        try clear hfz46_2
                        try clear hfz46_3
                        try clear hfz46_4
                        try clear hfz47_0
                        try clear hfz47_1
                        try clear hfz47_2
                        try clear hfz47_3
                        try clear hfz47_4
                        try clear hfz50_0
                        try clear hfz50_1
                        try clear hfz50_2
                        try clear hfz50_3
                        try clear hfz50_4
                        try clear hfz51_0
                        try clear hfz51_1
                        try clear hfz51_2
                        try clear hfz51_3
                        try clear hfz51_4
                        try clear hfz64_0
                        try clear hfz64_1
                        try clear hfz64_2
                        try clear hfz64_3
                        try clear hfz64_4
                        try clear p2
                        try clear p25
                        try clear p5
                        try clear p6
                        try clear q2
                        try clear q25
                        try clear q5
                        obtain ⟨x11_3, x194000_3, x194001_3, x194002_3, x194004_3, rfl, HA, HK3, BK193, HB⟩ := hrel
                        cases gk with
                        | zero => exact absurd HA.out (by simp [rookeryref15_token.l1])
                        | succ k3 =>
                          have H := HA.out
                          clear HA
                          simp only [rookeryref15_token.l1] at H
                          by_cases c65 : x11_3 < 17
                          · rw [if_pos c65] at H
                            have c65b0 : decide (x11_3 < 17) = true := decide_eq_true c65
                            clear c65
                            by_cases c66 : 0 ≤ x11_3
                            · rw [if_pos c66] at H
                              have c66b0 : decide (0 ≤ x11_3) = true := decide_eq_true c66
                              clear c66
                              by_cases c68 : (bt (⟨#[61, 60, 62, 43, 45, 42, 47, 33, 40, 41, 123, 125, 91, 93, 44, 59, 46]⟩ : ByteArray) x11_3) = (bt a0 a1)
                              · rw [if_pos c68] at H
                                have c68b0 : ((bt (⟨#[61, 60, 62, 43, 45, 42, 47, 33, 40, 41, 123, 125, 91, 93, 44, 59, 46]⟩ : ByteArray) x11_3) == (bt a0 a1)) = true := beq_iff_eq.mpr c68
                                have c68b1 : ((bt (⟨#[61, 60, 62, 43, 45, 42, 47, 33, 40, 41, 123, 125, 91, 93, 44, 59, 46]⟩ : ByteArray) x11_3) != (bt a0 a1)) = false := bne_eq_false_iff_eq.mpr c68
                                clear c68
                                have c69b0 := eq_true (of_decide_eq_true (by first | (with_reducible assumption) | assumption) : 0 ≤ x11_3)
                                by_cases c70 : x11_3 ≤ (wrap64 (x11_3 + 1))
                                · rw [if_pos c70] at H
                                  have c70b0 := eq_true c70
                                  have c70b1 : decide (x11_3 ≤ (wrap64 (x11_3 + 1))) = true := decide_eq_true c70
                                  by_cases c71 : (wrap64 (x11_3 + 1)) ≤ 17
                                  · rw [if_pos c71] at H
                                    have c71b0 := eq_true c71
                                    have c71b1 : decide ((wrap64 (x11_3 + 1)) ≤ 17) = true := decide_eq_true c71
                                    simp only [Option.some.injEq, Prod.mk.injEq] at H
                                    obtain ⟨rfl, rfl, rfl, rfl, rfl, rfl, rfl⟩ := H
                                    have p67 : 0 ≤ (x11_3 : Int) := of_decide_eq_true (by first | (with_reducible assumption) | assumption)
                                    have q67 : x11_3 < (17 : Int) := of_decide_eq_true (by first | (with_reducible assumption) | assumption)
                                    have hx67 := bt_at (⟨#[61, 60, 62, 43, 45, 42, 47, 33, 40, 41, 123, 125, 91, 93, 44, 59, 46]⟩ : ByteArray) x11_3
                                    replace p67 := eq_true p67
                                    replace q67 := eq_true q67
                                    have hcz72_0 : wr.cell? ⟨gb193, 0, none⟩ = some (.int .i64 x194000_3) := (blk_cell BK193.out 0).trans rfl
                                    have hcz72_1 : wr.cell? ⟨gb193, 1, none⟩ = some (.string x194001_3) := (blk_cell BK193.out 1).trans rfl
                                    have hcz72_2 : wr.cell? ⟨gb193, 2, none⟩ = some (.int .i64 x194002_3) := (blk_cell BK193.out 2).trans rfl
                                    have hcz72_3 : wr.cell? ⟨gb193, 3, none⟩ = some (.slice none 0 0) := (blk_cell BK193.out 3).trans rfl
                                    have hcz72_4 : wr.cell? ⟨gb193, 4, none⟩ = some (.int .i64 x194004_3) := (blk_cell BK193.out 4).trans rfl
                                    have hfz72_0 := blk_frozen BK193.out 0
                                    have hfz72_1 := blk_frozen BK193.out 1
                                    have hfz72_2 := blk_frozen BK193.out 2
                                    have hfz72_3 := blk_frozen BK193.out 3
                                    have hfz72_4 := blk_frozen BK193.out 4
                                    go_wp2
                                    refine bodyPost_ret (results_ctt rfl _ _ gb193 33 #[.int .i64 5, .string ((⟨#[61, 60, 62, 43, 45, 42, 47, 33, 40, 41, 123, 125, 91, 93, 44, 59, 46]⟩ : ByteArray).extract (x11_3 : Int).toNat ((wrap64 (x11_3 + 1)) : Int).toNat), .int .i64 0, .slice none 0 0, .int .i64 a1] (0, 0) _ rfl (by (with_reducible repeat (first | refine blk_drewN ?_ _ | refine blk_drew ?_ | refine blk_alloc ?_ _)); refine blk_put (cs := #[.int .i64 5, .string ((⟨#[61, 60, 62, 43, 45, 42, 47, 33, 40, 41, 123, 125, 91, 93, 44, 59, 46]⟩ : ByteArray).extract (x11_3 : Int).toNat ((wrap64 (x11_3 + 1)) : Int).toNat), .int .i64 0, .slice none 0 0, .int .i64 x194004_3]) ?_ 4 _ rfl; (with_reducible repeat (first | refine blk_drewN ?_ _ | refine blk_drew ?_ | refine blk_alloc ?_ _)); refine blk_put (cs := #[.int .i64 5, .string ((⟨#[61, 60, 62, 43, 45, 42, 47, 33, 40, 41, 123, 125, 91, 93, 44, 59, 46]⟩ : ByteArray).extract (x11_3 : Int).toNat ((wrap64 (x11_3 + 1)) : Int).toNat), .int .i64 0, .slice none 0 0, .int .i64 x194004_3]) ?_ 3 _ rfl; (with_reducible repeat (first | refine blk_drewN ?_ _ | refine blk_drew ?_ | refine blk_alloc ?_ _)); refine blk_put (cs := #[.int .i64 5, .string ((⟨#[61, 60, 62, 43, 45, 42, 47, 33, 40, 41, 123, 125, 91, 93, 44, 59, 46]⟩ : ByteArray).extract (x11_3 : Int).toNat ((wrap64 (x11_3 + 1)) : Int).toNat), .int .i64 x194002_3, .slice none 0 0, .int .i64 x194004_3]) ?_ 2 _ rfl; (with_reducible repeat (first | refine blk_drewN ?_ _ | refine blk_drew ?_ | refine blk_alloc ?_ _)); refine blk_put (cs := #[.int .i64 5, .string x194001_3, .int .i64 x194002_3, .slice none 0 0, .int .i64 x194004_3]) ?_ 1 _ rfl; (with_reducible repeat (first | refine blk_drewN ?_ _ | refine blk_drew ?_ | refine blk_alloc ?_ _)); refine blk_put (cs := #[.int .i64 x194000_3, .string x194001_3, .int .i64 x194002_3, .slice none 0 0, .int .i64 x194004_3]) ?_ 0 _ rfl; (with_reducible repeat (first | refine blk_drewN ?_ _ | refine blk_drew ?_ | refine blk_alloc ?_ _)); exact BK193.out) Tryd.underlying33 rfl (by kernel_rfl)) rfl ?_
                                    exact ⟨_, by first | rfl | (simp [errW_none, errW_some] <;> rfl) | (simp [*, errW_none, errW_some] <;> rfl), by first | exact Kd.R_nil _ _ _ _ _ | exact Kd.N_nil _ _ _ _ _ | exact Kd.V_nil _ _ _ _ _ | exact Kd.Q_nil _ _ _ _ _ | exact Kd.S_nil _ _ _ _ _, by repeat (first | (with_reducible first | exact HB.out | apply below_alloc | apply pw_below_drewN | apply below_drew1 | refine below_set ?_ GE193.out) | exact HB.out)⟩
                                  · rw [if_neg c71] at H
                                    exact absurd H (by simp)
                                · rw [if_neg c70] at H
                                  exact absurd H (by simp)
                              · rw [if_neg c68] at H
                                have c68b0 : ((bt (⟨#[61, 60, 62, 43, 45, 42, 47, 33, 40, 41, 123, 125, 91, 93, 44, 59, 46]⟩ : ByteArray) x11_3) == (bt a0 a1)) = false := beq_eq_false_iff_ne.mpr c68
                                have c68b1 : ((bt (⟨#[61, 60, 62, 43, 45, 42, 47, 33, 40, 41, 123, 125, 91, 93, 44, 59, 46]⟩ : ByteArray) x11_3) != (bt a0 a1)) = true := bne_iff_ne.mpr c68
                                have H' := Aside0.mk H
                                clear H
                                have p67 : 0 ≤ (x11_3 : Int) := of_decide_eq_true (by first | (with_reducible assumption) | assumption)
                                have q67 : x11_3 < (17 : Int) := of_decide_eq_true (by first | (with_reducible assumption) | assumption)
                                have hx67 := bt_at (⟨#[61, 60, 62, 43, 45, 42, 47, 33, 40, 41, 123, 125, 91, 93, 44, 59, 46]⟩ : ByteArray) x11_3
                                replace p67 := eq_true p67
                                replace q67 := eq_true q67
                                go_wp2
                                go_roundg k3
                                case measure => have := HJ51.out; have := HJ57.out; have := HK3.out; omega
                                case rel => exact ⟨(wrap64 (x11_3 + 1)), (x194000_3), (x194001_3), (x194002_3), (x194004_3), (by first | rfl | (simp; done) | (simp [*]; done)), H', ⟨by have := HJ51.out; have := HJ57.out; have := HK3.out; omega⟩, ⟨by (with_reducible repeat (first | refine blk_drewN ?_ _ | refine blk_drew ?_ | refine blk_alloc ?_ _)); exact BK193.out⟩, ⟨by repeat (first | (with_reducible first | exact HB.out | apply below_alloc | apply pw_below_drewN | apply below_drew1 | refine below_set ?_ GE193.out) | exact HB.out)⟩⟩
                            · rw [if_neg c66] at H
                              exact absurd H (by simp)
                          · rw [if_neg c65] at H
                            have c65b0 : decide (x11_3 < 17) = false := decide_eq_false c65
                            clear c65
                            simp only [Option.some.injEq, Prod.mk.injEq] at H
                            obtain ⟨rfl, rfl, rfl, rfl, rfl, rfl, rfl⟩ := H
                            have hcz73_0 : wr.cell? ⟨gb193, 0, none⟩ = some (.int .i64 x194000_3) := (blk_cell BK193.out 0).trans rfl
                            have hcz73_1 : wr.cell? ⟨gb193, 1, none⟩ = some (.string x194001_3) := (blk_cell BK193.out 1).trans rfl
                            have hcz73_2 : wr.cell? ⟨gb193, 2, none⟩ = some (.int .i64 x194002_3) := (blk_cell BK193.out 2).trans rfl
                            have hcz73_3 : wr.cell? ⟨gb193, 3, none⟩ = some (.slice none 0 0) := (blk_cell BK193.out 3).trans rfl
                            have hcz73_4 : wr.cell? ⟨gb193, 4, none⟩ = some (.int .i64 x194004_3) := (blk_cell BK193.out 4).trans rfl
                            have hfz73_0 := blk_frozen BK193.out 0
                            have hfz73_1 := blk_frozen BK193.out 1
                            have hfz73_2 := blk_frozen BK193.out 2
                            have hfz73_3 := blk_frozen BK193.out 3
                            have hfz73_4 := blk_frozen BK193.out 4
                            go_wp2
                            refine bodyPost_ret (results_ctt rfl _ _ gb193 33 #[.int .i64 0, .string (⟨#[]⟩ : ByteArray), .int .i64 0, .slice none 0 0, .int .i64 0] (0, 0) _ rfl (by (with_reducible repeat (first | refine blk_drewN ?_ _ | refine blk_drew ?_ | refine blk_alloc ?_ _)); refine blk_put (cs := #[.int .i64 0, .string (⟨#[]⟩ : ByteArray), .int .i64 0, .slice none 0 0, .int .i64 x194004_3]) ?_ 4 _ rfl; (with_reducible repeat (first | refine blk_drewN ?_ _ | refine blk_drew ?_ | refine blk_alloc ?_ _)); refine blk_put (cs := #[.int .i64 0, .string (⟨#[]⟩ : ByteArray), .int .i64 0, .slice none 0 0, .int .i64 x194004_3]) ?_ 3 _ rfl; (with_reducible repeat (first | refine blk_drewN ?_ _ | refine blk_drew ?_ | refine blk_alloc ?_ _)); refine blk_put (cs := #[.int .i64 0, .string (⟨#[]⟩ : ByteArray), .int .i64 x194002_3, .slice none 0 0, .int .i64 x194004_3]) ?_ 2 _ rfl; (with_reducible repeat (first | refine blk_drewN ?_ _ | refine blk_drew ?_ | refine blk_alloc ?_ _)); refine blk_put (cs := #[.int .i64 0, .string x194001_3, .int .i64 x194002_3, .slice none 0 0, .int .i64 x194004_3]) ?_ 1 _ rfl; (with_reducible repeat (first | refine blk_drewN ?_ _ | refine blk_drew ?_ | refine blk_alloc ?_ _)); refine blk_put (cs := #[.int .i64 x194000_3, .string x194001_3, .int .i64 x194002_3, .slice none 0 0, .int .i64 x194004_3]) ?_ 0 _ rfl; (with_reducible repeat (first | refine blk_drewN ?_ _ | refine blk_drew ?_ | refine blk_alloc ?_ _)); exact BK193.out) Tryd.underlying33 rfl (by kernel_rfl)) rfl ?_
                            exact ⟨_, by first | rfl | (simp [errW_none, errW_some] <;> rfl) | (simp [*, errW_none, errW_some] <;> rfl), by first | exact Kd.R_nil _ _ _ _ _ | exact Kd.N_nil _ _ _ _ _ | exact Kd.V_nil _ _ _ _ _ | exact Kd.Q_nil _ _ _ _ _ | exact Kd.S_nil _ _ _ _ _, by repeat (first | (with_reducible first | exact HB.out | apply below_alloc | apply pw_below_drewN | apply below_drew1 | refine below_set ?_ GE193.out) | exact HB.out)⟩
    · rw [if_neg c4] at H
      exact absurd H (by simp)
  · rw [if_neg c3] at H
    exact absurd H (by simp)

end Go.Proofs.YtgkbmdlelcbmhaaDoor.PLex
