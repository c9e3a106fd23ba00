-- Written by a turned copy of the kit's printer (wip/patch_print.py), in this project; not trusted: Lean checks it.
import Derived.Test.YtejidddjkngoiaaDoorPGramx0
namespace Go.Proofs.YtejidddjkngoiaaDoor.PGram
open Go.RowKit Go.Proofs.YtejidddjkngoiaaDoorW.PrintWords Go.Proofs.YtejidddjkngoiaaDoorW.PrintLast Go.Proofs.YtejidddjkngoiaaDoorW.PrintMore
attribute [local go_sem] max2_int min2_int max_two min_two max_three min_three max_four min_four   -- for this text's walks alone
set_option linter.unusedVariables false
set_option linter.unusedSimpArgs false

/-- A state of type 51 at block g of W; what its slices lead to came in by w0. -/
def IsS51 (w0 W : World) (g : Nat) (f0 : ByteArray) (f1 : Int) : Prop := W.heap[g]? = some (.cells #[.string f0, .int .i64 f1] 51 (0, 0)) ∧ w0.heap.size ≤ g
theorem IsS51.grown {w0 W : World} {g : Nat} {f0 : ByteArray} {f1 : Int} {W1 : World} {row : Option Nat} (h : IsS51 w0 W g f0 f1) (hw : W.grownBy W1 row) (hne : some g ≠ row) : IsS51 w0 W1 g f0 f1 := by
 obtain ⟨hb, hg⟩ := h
 exact ⟨blk_grown hb hw hne, hg⟩
theorem IsS51.own_neN {w0 W : World} {g : Nat} {f0 : ByteArray} {f1 : Int} {α : Type} {d : Kd α} {e : Nat} {base : Nat} {ok : Nat → Prop} {v : Value} {xs : List α} (h : IsS51 w0 W g f0 f1) (ho : Kd.N d e W base ok v xs) (ht : e ≠ 51) : some g ≠ v.ownBlock := by
 obtain ⟨hb, hg⟩ := h
 exact Kd.N_ne ho hb ht
theorem IsS51.fresh {w0 W : World} {g : Nat} {f0 : ByteArray} {f1 : Int} (h : IsS51 w0 W g f0 f1) : ∀ k, W.heap.size ≤ k → k ≠ g := by
 obtain ⟨hb, hg⟩ := h
 exact Kd.freshB hb
theorem IsS51.kept {w0 W : World} {g : Nat} {f0 : ByteArray} {f1 : Int} {W1 : World} {S : Nat → Prop} (h : IsS51 w0 W g f0 f1) (hk : Kept W W1 S) (hne : ¬ S g) : IsS51 w0 W1 g f0 f1 := by
 obtain ⟨hb, hg⟩ := h
 exact ⟨blk_kept hb hk hne, hg⟩
theorem IsS51.below {w0 W : World} {g : Nat} {f0 : ByteArray} {f1 : Int} {W1 : World} (h : IsS51 w0 W g f0 f1) (hw : Below W.heap.size W W1) : IsS51 w0 W1 g f0 f1 := h.grown (grown_of_below hw none) (by simp)
theorem IsS51.alloc {w0 W : World} {g : Nat} {f0 : ByteArray} {f1 : Int} (h : IsS51 w0 W g f0 f1) (o : Obj) : IsS51 w0 (W.alloc o) g f0 f1 := h.below (below_alloc (Below.refl _ _) o)
theorem IsS51.drewN {w0 W : World} {g : Nat} {f0 : ByteArray} {f1 : Int} (h : IsS51 w0 W g f0 f1) (m : Nat) : IsS51 w0 (W.drewN m) g f0 f1 := h
theorem IsS51.drew {w0 W : World} {g : Nat} {f0 : ByteArray} {f1 : Int} (h : IsS51 w0 W g f0 f1) : IsS51 w0 W.drew g f0 f1 := h
theorem IsS51.at_ {w0 W : World} {g : Nat} {f0 : ByteArray} {f1 : Int} {w' : World} {m : Nat} (hq : W.drewN m = w') (h : IsS51 w0 W g f0 f1) : IsS51 w0 w' g f0 f1 := by subst hq; exact IsS51.drewN h m
theorem IsS51.apart {w0 W : World} {g : Nat} {f0 : ByteArray} {f1 : Int} {α : Type} {d : Kd α} {e : Nat} {base : Nat} {ok : Nat → Prop} {v : Value} {xs : List α} (h : IsS51 w0 W g f0 f1) (ho : d.R e W base ok v xs) (ht : ∀ q, q ∈ e :: d.E → q ≠ 51) : d.R e W base (fun k => ok k ∧ k ≠ g) v xs := by
 obtain ⟨hb, hg⟩ := h
 exact Kd.R_types ho hb ht
theorem IsS51.own_ne {w0 W : World} {g : Nat} {f0 : ByteArray} {f1 : Int} {α : Type} {d : Kd α} {e : Nat} {base : Nat} {ok : Nat → Prop} {v : Value} {xs : List α} (h : IsS51 w0 W g f0 f1) (ho : d.R e W base ok v xs) (ht : e ≠ 51) : some g ≠ v.ownBlock := by
 obtain ⟨hb, hg⟩ := h
 exact Kd.R_ne ho hb ht
theorem IsS51.apartQ {w0 W : World} {g : Nat} {f0 : ByteArray} {f1 : Int} {α : Type} {d : Kd α} {e : Nat} {base : Nat} {ok : Nat → Prop} {v : Value} {xs : List α} (h : IsS51 w0 W g f0 f1) (ho : d.Q e W base ok v xs) (ht : ∀ q, q ∈ e :: d.E → q ≠ 51) : d.Q e W base (fun k => ok k ∧ k ≠ g) v xs := by
 obtain ⟨hb, hg⟩ := h
 exact Kd.Q_types ho hb ht
theorem IsS51.own_neQ {w0 W : World} {g : Nat} {f0 : ByteArray} {f1 : Int} {α : Type} {d : Kd α} {e : Nat} {base : Nat} {ok : Nat → Prop} {v : Value} {xs : List α} (h : IsS51 w0 W g f0 f1) (ho : d.Q e W base ok v xs) (ht : e ≠ 51) : some g ≠ v.ownBlock := by
 obtain ⟨hb, hg⟩ := h
 exact Kd.Q_ne ho hb ht
theorem IsS51.apartS {w0 W : World} {g : Nat} {f0 : ByteArray} {f1 : Int} {α : Type} {d : Kd α} {e : Nat} {base : Nat} {ok : Nat → Prop} {v : Value} {xs : List α} (h : IsS51 w0 W g f0 f1) (ho : d.S e W base ok v xs) (ht : ∀ q, q ∈ e :: d.E → q ≠ 51) : d.S e W base (fun k => ok k ∧ k ≠ g) v xs := by
 obtain ⟨hb, hg⟩ := h
 exact Kd.S_types ho hb ht
theorem IsS51.own_neS {w0 W : World} {g : Nat} {f0 : ByteArray} {f1 : Int} {α : Type} {d : Kd α} {e : Nat} {base : Nat} {ok : Nat → Prop} {v : Value} {xs : List α} (h : IsS51 w0 W g f0 f1) (ho : d.S e W base ok v xs) (ht : e ≠ 51) : some g ≠ v.ownBlock := by
 obtain ⟨hb, hg⟩ := h
 exact Kd.S_ne ho hb ht
theorem IsS51.lt {w0 W : World} {g : Nat} {f0 : ByteArray} {f1 : Int} (h : IsS51 w0 W g f0 f1) : g < W.heap.size := by
 obtain ⟨hb, hg⟩ := h
 exact blk_lt hb
theorem IsS51.ge {w0 W : World} {g : Nat} {f0 : ByteArray} {f1 : Int} (h : IsS51 w0 W g f0 f1) : w0.heap.size ≤ g := by
 obtain ⟨hb, hg⟩ := h
 exact hg
theorem IsS51.ne_blk {w0 W : World} {g : Nat} {f0 : ByteArray} {f1 : Int} {a : Nat} {cs : Array Value} {t : TypeId} {fr : Nat × Nat} (h : IsS51 w0 W g f0 f1) (hb2 : W.heap[a]? = some (.cells cs t fr)) (ht : t ≠ 51) : g ≠ a := by
 obtain ⟨hb, hg⟩ := h
 rintro rfl
 rw [hb] at hb2
 injection hb2 with hb2
 injection hb2 with _ ht2
 exact ht ht2.symm
theorem IsS51.far {w0 W : World} {g : Nat} {f0 : ByteArray} {f1 : Int} {p : Addr} (h : IsS51 w0 W g f0 f1) (hne : g ≠ p.block) (u : Value) : IsS51 w0 (W.setCell p u) g f0 f1 := by
 obtain ⟨hb, hg⟩ := h
 exact ⟨blk_far hb hne u, hg⟩
theorem cellS51_0 {W : World} {g : Nat} {f0 : ByteArray} {f1 : Int} (h : W.heap[g]? = some (.cells #[.string f0, .int .i64 f1] 51 (0, 0))) : W.cell? ⟨g, 0, none⟩ = some (.string f0) := (blk_cell h 0).trans rfl
theorem IsS51.set_0 {w0 W : World} {g : Nat} {f0 : ByteArray} {f1 : Int} (h : IsS51 w0 W g f0 f1) (x : ByteArray) : IsS51 w0 (W.setCell ⟨g, 0, none⟩ (.string x)) g x f1 := by
 obtain ⟨hb, hg⟩ := h
 exact ⟨by simpa using blk_set hb 0 (.string x), hg⟩
theorem cellS51_1 {W : World} {g : Nat} {f0 : ByteArray} {f1 : Int} (h : W.heap[g]? = some (.cells #[.string f0, .int .i64 f1] 51 (0, 0))) : W.cell? ⟨g, 1, none⟩ = some (.int .i64 f1) := (blk_cell h 1).trans rfl
theorem IsS51.set_1 {w0 W : World} {g : Nat} {f0 : ByteArray} {f1 : Int} (h : IsS51 w0 W g f0 f1) (x : Int) : IsS51 w0 (W.setCell ⟨g, 1, none⟩ (.int .i64 x)) g f0 x := by
 obtain ⟨hb, hg⟩ := h
 exact ⟨by simpa using blk_set hb 1 (.int .i64 x), hg⟩
theorem IsS51.new (w0 W : World) (f0 : ByteArray) (f1 : Int) (hB : Below w0.heap.size w0 W) : IsS51 w0 (W.alloc (.cells #[.string f0, .int .i64 f1] 51)) W.heap.size f0 f1 := ⟨by simpa using heap_alloc_new W _, hB.size⟩

/-! ### lex_scanner_skip: function 19 -/
mutual
def lex_scanner_skip.l0 : Nat → ByteArray → Int → Option (ByteArray × Int)
 | 0, _, _ => none
 | k + 1, x1000, x1001 => if x1001 < (x1000.size : Int) then (if 0 ≤ x1001 then (if (bt x1000 x1001) = 37 then (lex_scanner_skip.l1 k x1000 x1001) else (if (bt x1000 x1001) = 32 then (lex_scanner_skip.l0 k x1000 (wrap64 (x1001 + 1))) else (if (bt x1000 x1001) = 9 then (lex_scanner_skip.l0 k x1000 (wrap64 (x1001 + 1))) else (if (bt x1000 x1001) = 10 then (lex_scanner_skip.l0 k x1000 (wrap64 (x1001 + 1))) else (if (bt x1000 x1001) = 13 then (lex_scanner_skip.l0 k x1000 (wrap64 (x1001 + 1))) else (some (x1000, x1001))))))) else (none)) else (some (x1000, x1001))
def lex_scanner_skip.l1 : Nat → ByteArray → Int → Option (ByteArray × Int)
 | 0, _, _ => none
 | k + 1, x1000, x1001 => if x1001 < (x1000.size : Int) then (if 0 ≤ x1001 then (if (bt x1000 x1001) = 10 then (lex_scanner_skip.l0 k x1000 x1001) else (lex_scanner_skip.l1 k x1000 (wrap64 (x1001 + 1)))) else (none)) else (lex_scanner_skip.l0 k x1000 x1001)
end
def lex_scanner_skip.f (k : Nat) (s0_0 : ByteArray) (s0_1 : Int) : Option (ByteArray × Int) := lex_scanner_skip.l0 k s0_0 s0_1
theorem lex_scanner_skip.mono_l : ∀ k, (∀ y0 y1, LeO (lex_scanner_skip.l0 k y0 y1) (lex_scanner_skip.l0 (k + 1) y0 y1)) ∧ (∀ y0 y1, LeO (lex_scanner_skip.l1 k y0 y1) (lex_scanner_skip.l1 (k + 1) y0 y1))
 | 0 => ⟨fun _ _ r h => by simp [lex_scanner_skip.l0] at h, fun _ _ r h => by simp [lex_scanner_skip.l1] at h⟩
 | k + 1 => by
  obtain ⟨ih0, ih1⟩ := lex_scanner_skip.mono_l k
  refine ⟨?_, ?_⟩
  ·
   intro y0 y1
   unfold lex_scanner_skip.l0
   repeat' first
   | (with_reducible exact ih0 _ _)
   | (with_reducible exact ih1 _ _)
   | (with_reducible exact LeO.refl _)
   | (with_reducible exact LeO.none _)
   | (with_reducible refine LeO.ite ?_ ?_)
   | (with_reducible refine LeO.bind ?_ (fun _ => ?_))
   | exact ih0 _ _
   | exact ih1 _ _
   | exact LeO.none _
   | refine LeO.ite ?_ ?_
   | refine LeO.bind ?_ (fun _ => ?_)
  ·
   intro y0 y1
   unfold lex_scanner_skip.l1
   repeat' first
   | (with_reducible exact ih0 _ _)
   | (with_reducible exact ih1 _ _)
   | (with_reducible exact LeO.refl _)
   | (with_reducible exact LeO.none _)
   | (with_reducible refine LeO.ite ?_ ?_)
   | (with_reducible refine LeO.bind ?_ (fun _ => ?_))
   | exact ih0 _ _
   | exact ih1 _ _
   | exact LeO.none _
   | refine LeO.ite ?_ ?_
   | refine LeO.bind ?_ (fun _ => ?_)
theorem lex_scanner_skip.mono : ∀ a0 a1 k, LeO (lex_scanner_skip.f k a0 a1) (lex_scanner_skip.f (k + 1) a0 a1) := by
 intro a0 a1 k
 obtain ⟨ih0, ih1⟩ := lex_scanner_skip.mono_l k
 unfold lex_scanner_skip.f
 repeat' first
   | (with_reducible exact ih0 _ _)
   | (with_reducible exact ih1 _ _)
   | (with_reducible exact LeO.refl _)
   | (with_reducible exact LeO.none _)
   | (with_reducible refine LeO.ite ?_ ?_)
   | (with_reducible refine LeO.bind ?_ (fun _ => ?_))
   | exact ih0 _ _
   | exact ih1 _ _
   | exact LeO.none _
   | refine LeO.ite ?_ ?_
   | refine LeO.bind ?_ (fun _ => ?_)
set_option maxHeartbeats 8000000 in
set_option maxRecDepth 100000 in
theorem lex_scanner_skip.calls (k : Nat) (g : Nat) (s0_0 : ByteArray) (s0_1 : Int) (r1 : ByteArray) (r2 : Int) (w0 w : World) (hI : IsS51 w0 w g s0_0 s0_1) (hB : Below w0.heap.size w0 w) (h : lex_scanner_skip.f k s0_0 s0_1 = some (r1, r2)) :
  Calls Tryd.prog 19 #[.pointer (some ⟨g, 0, none⟩)] w fun e w' => e = .returned (.tuple #[]) ∧ IsS51 w0 w' g r1 r2 ∧ Below w0.heap.size w0 w' ∧ KeepBut w w' g none := by
 have HI0 := qM hI
 have HK := qM (KeepBut.refl w g none)
 have HL := qM hB.size
 clear hI
 have HW0 := qM hB.size
 have HB := qM hB
 clear hB
 have H : (lex_scanner_skip.l0 k s0_0 s0_1) = some (r1, r2) := h
 clear h
 have H' := qM H
 clear H
 go_enter Tryd.func19, Tryd.ntmps19
 go_wp2
 repeat (go_quiet (fail); try go_wp2)
 go_loopg [] k (fun kq w' => ∃ (x1001_1 : Int), Aside0 (lex_scanner_skip.l0 kq s0_0 x1001_1 = some (r1, r2)) ∧ Aside0 (kq ≤ k) ∧ Aside0 (IsS51 w0 w' g s0_0 x1001_1) ∧ Aside0 (KeepBut w w' g none) ∧ Aside0 (Below w0.heap.size w0 w'))
 case atStart => exact ⟨(s0_1), H', ⟨Nat.le_refl _⟩, ⟨by repeat (first | (with_reducible first | exact HI0.out | apply IsS51.alloc | apply IsS51.drewN | apply IsS51.drew | apply IsS51.set_0 | apply IsS51.set_1) | exact HI0.out)⟩, ⟨by repeat (first | (with_reducible first | exact HK.out | apply KeepBut.set_ | apply keep_drewN | apply keep_drew | apply keep_alloc) | exact HK.out)⟩, ⟨by repeat (first | (with_reducible first | exact HB.out | apply below_alloc | apply pw_below_drewN | apply below_drew1 | refine below_set ?_ (IsS51.ge HI0.out)) | exact HB.out)⟩⟩
 case round =>
  clear H'; try clear c1
  obtain ⟨x1001_1, HA, HK1, HI0, HK, HB⟩ := hrel
  cases gk with
  | zero => exact absurd HA.out (by simp [lex_scanner_skip.l0])
  | succ k1 =>
   have H := HA.out
   clear HA
   simp only [lex_scanner_skip.l0] at H
   by_cases c2 : x1001_1 < (s0_0.size : Int)
   ·
    rw [if_pos c2] at H
    have c2b0 : decide (x1001_1 < (s0_0.size : Int)) = true := decide_eq_true c2
    clear c2
    by_cases c3 : 0 ≤ x1001_1
    ·
     rw [if_pos c3] at H
     have c3b0 : decide (0 ≤ x1001_1) = true := decide_eq_true c3
     clear c3
     by_cases c5 : (bt s0_0 x1001_1) = 37
     ·
      rw [if_pos c5] at H
      have c5b0 : ((bt s0_0 x1001_1) == 37) = true := beq_iff_eq.mpr c5
      have c5b1 : ((bt s0_0 x1001_1) != 37) = false := bne_eq_false_iff_eq.mpr c5
      clear c5
      have H' := qM H
      clear H
      obtain ⟨HGz6, hgz6⟩ := HI0.out
      have hcz6_0 := cellS51_0 HGz6
      have hcz6_1 := cellS51_1 HGz6
      have hfz6_0 := blk_frozen HGz6 0
      have hfz6_1 := blk_frozen HGz6 1
      clear HGz6 hgz6
      have p4 : 0 ≤ (x1001_1 : Int) := qD
      have q4 : x1001_1 < (s0_0.size : Int) := qD
      have hx4 := bt_at s0_0 x1001_1
      replace p4 := eq_true p4
      replace q4 := eq_true q4
      go_wp2
      repeat (go_quiet (fail); try go_wp2)
      go_loopg [] k1 (fun kq w' => ∃ (x1001_2 : Int), Aside0 (lex_scanner_skip.l1 kq s0_0 x1001_2 = some (r1, r2)) ∧ Aside0 (kq ≤ k1) ∧ Aside0 (IsS51 w0 w' g s0_0 x1001_2) ∧ Aside0 (KeepBut w w' g none) ∧ Aside0 (Below w0.heap.size w0 w'))
      case atStart => exact ⟨(x1001_1), H', ⟨Nat.le_refl _⟩, ⟨by repeat (first | (with_reducible first | exact HI0.out | apply IsS51.alloc | apply IsS51.drewN | apply IsS51.drew | apply IsS51.set_0 | apply IsS51.set_1) | exact HI0.out)⟩, ⟨by repeat (first | (with_reducible first | exact HK.out | apply KeepBut.set_ | apply keep_drewN | apply keep_drew | apply keep_alloc) | exact HK.out)⟩, ⟨by repeat (first | (with_reducible first | exact HB.out | apply below_alloc | apply pw_below_drewN | apply below_drew1 | refine below_set ?_ (IsS51.ge HI0.out)) | exact HB.out)⟩⟩
      case round =>
       clear H'; try clear c1; try clear c2; try clear c2b0; try clear p2; try clear c3; try clear c3b0; try clear p4; try clear q4; try clear hx4; try clear c5; try clear c5b0; try clear c5b1; try clear hcz6_0; try clear hcz6_1; try clear hfz6_0; try clear hfz6_1; try clear p4; try clear q4
       obtain ⟨x1001_2, HA, HK2, HI0, HK, HB⟩ := hrel
       cases gk with
       | zero => exact absurd HA.out (by simp [lex_scanner_skip.l1])
       | succ k2 =>
        have H := HA.out
        clear HA
        simp only [lex_scanner_skip.l1] at H
        by_cases c7 : x1001_2 < (s0_0.size : Int)
        ·
         rw [if_pos c7] at H
         have c7b0 : decide (x1001_2 < (s0_0.size : Int)) = true := decide_eq_true c7
         clear c7
         by_cases c8 : 0 ≤ x1001_2
         ·
          rw [if_pos c8] at H
          have c8b0 : decide (0 ≤ x1001_2) = true := decide_eq_true c8
          clear c8
          by_cases c10 : (bt s0_0 x1001_2) = 10
          ·
           rw [if_pos c10] at H
           have c10b0 : ((bt s0_0 x1001_2) == 10) = true := beq_iff_eq.mpr c10
           have c10b1 : ((bt s0_0 x1001_2) != 10) = false := bne_eq_false_iff_eq.mpr c10
           clear c10
           have H' := qM H
           clear H
           obtain ⟨HGz11, hgz11⟩ := HI0.out
           have hcz11_0 := cellS51_0 HGz11
           have hcz11_1 := cellS51_1 HGz11
           have hfz11_0 := blk_frozen HGz11 0
           have hfz11_1 := blk_frozen HGz11 1
           clear HGz11 hgz11
           have p9 : 0 ≤ (x1001_2 : Int) := qD
           have q9 : x1001_2 < (s0_0.size : Int) := qD
           have hx9 := bt_at s0_0 x1001_2
           replace p9 := eq_true p9
           replace q9 := eq_true q9
           go_wp2
           repeat (go_quiet (fail); try go_wp2)
           go_roundg k2
           case measure => have := HK1.out; have := HK2.out; omega
           case rel => exact ⟨(x1001_2), H', ⟨by have := HK1.out; have := HK2.out; omega⟩, ⟨by repeat (first | (with_reducible first | exact HI0.out | apply IsS51.alloc | apply IsS51.drewN | apply IsS51.drew | apply IsS51.set_0 | apply IsS51.set_1) | exact HI0.out)⟩, ⟨by repeat (first | (with_reducible first | exact HK.out | apply KeepBut.set_ | apply keep_drewN | apply keep_drew | apply keep_alloc) | exact HK.out)⟩, ⟨by repeat (first | (with_reducible first | exact HB.out | apply below_alloc | apply pw_below_drewN | apply below_drew1 | refine below_set ?_ (IsS51.ge HI0.out)) | exact HB.out)⟩⟩
          ·
           rw [if_neg c10] at H
           have c10b0 : ((bt s0_0 x1001_2) == 10) = false := beq_eq_false_iff_ne.mpr c10
           have c10b1 : ((bt s0_0 x1001_2) != 10) = true := bne_iff_ne.mpr c10
           have H' := qM H
           clear H
           obtain ⟨HGz12, hgz12⟩ := HI0.out
           have hcz12_0 := cellS51_0 HGz12
           have hcz12_1 := cellS51_1 HGz12
           have hfz12_0 := blk_frozen HGz12 0
           have hfz12_1 := blk_frozen HGz12 1
           clear HGz12 hgz12
           have p9 : 0 ≤ (x1001_2 : Int) := qD
           have q9 : x1001_2 < (s0_0.size : Int) := qD
           have hx9 := bt_at s0_0 x1001_2
           replace p9 := eq_true p9
           replace q9 := eq_true q9
           go_wp2
           repeat (go_quiet (fail); try go_wp2)
           go_roundg k2
           case measure => have := HK1.out; have := HK2.out; omega
           case rel => exact ⟨(wrap64 (x1001_2 + 1)), H', ⟨by have := HK1.out; have := HK2.out; omega⟩, ⟨by repeat (first | (with_reducible first | exact HI0.out | apply IsS51.alloc | apply IsS51.drewN | apply IsS51.drew | apply IsS51.set_0 | apply IsS51.set_1) | exact HI0.out)⟩, ⟨by repeat (first | (with_reducible first | exact HK.out | apply KeepBut.set_ | apply keep_drewN | apply keep_drew | apply keep_alloc) | exact HK.out)⟩, ⟨by repeat (first | (with_reducible first | exact HB.out | apply below_alloc | apply pw_below_drewN | apply below_drew1 | refine below_set ?_ (IsS51.ge HI0.out)) | exact HB.out)⟩⟩
         ·
          rw [if_neg c8] at H
          exact absurd H (by simp)
        ·
         rw [if_neg c7] at H
         have c7b0 : decide (x1001_2 < (s0_0.size : Int)) = false := decide_eq_false c7
         clear c7
         have H' := qM H
         clear H
         obtain ⟨HGz13, hgz13⟩ := HI0.out
         have hcz13_0 := cellS51_0 HGz13
         have hcz13_1 := cellS51_1 HGz13
         have hfz13_0 := blk_frozen HGz13 0
         have hfz13_1 := blk_frozen HGz13 1
         clear HGz13 hgz13
         go_wp2
         repeat (go_quiet (fail); try go_wp2)
         go_roundg k2
         case measure => have := HK1.out; have := HK2.out; omega
         case rel => exact ⟨(x1001_2), H', ⟨by have := HK1.out; have := HK2.out; omega⟩, ⟨by repeat (first | (with_reducible first | exact HI0.out | apply IsS51.alloc | apply IsS51.drewN | apply IsS51.drew | apply IsS51.set_0 | apply IsS51.set_1) | exact HI0.out)⟩, ⟨by repeat (first | (with_reducible first | exact HK.out | apply KeepBut.set_ | apply keep_drewN | apply keep_drew | apply keep_alloc) | exact HK.out)⟩, ⟨by repeat (first | (with_reducible first | exact HB.out | apply below_alloc | apply pw_below_drewN | apply below_drew1 | refine below_set ?_ (IsS51.ge HI0.out)) | exact HB.out)⟩⟩
     ·
      rw [if_neg c5] at H
      have c5b0 : ((bt s0_0 x1001_1) == 37) = false := beq_eq_false_iff_ne.mpr c5
      have c5b1 : ((bt s0_0 x1001_1) != 37) = true := bne_iff_ne.mpr c5
      by_cases c14 : (bt s0_0 x1001_1) = 32
      ·
       rw [if_pos c14] at H
       have c14b0 : ((bt s0_0 x1001_1) == 32) = true := beq_iff_eq.mpr c14
       have c14b1 : ((bt s0_0 x1001_1) != 32) = false := bne_eq_false_iff_eq.mpr c14
       clear c14
       have H' := qM H
       clear H
       obtain ⟨HGz15, hgz15⟩ := HI0.out
       have hcz15_0 := cellS51_0 HGz15
       have hcz15_1 := cellS51_1 HGz15
       have hfz15_0 := blk_frozen HGz15 0
       have hfz15_1 := blk_frozen HGz15 1
       clear HGz15 hgz15
       have p4 : 0 ≤ (x1001_1 : Int) := qD
       have q4 : x1001_1 < (s0_0.size : Int) := qD
       have hx4 := bt_at s0_0 x1001_1
       replace p4 := eq_true p4
       replace q4 := eq_true q4
       go_wp2
       repeat (go_quiet (fail); try go_wp2)
       go_roundg k1
       case measure => have := HK1.out; omega
       case rel => exact ⟨(wrap64 (x1001_1 + 1)), H', ⟨by have := HK1.out; omega⟩, ⟨by repeat (first | (with_reducible first | exact HI0.out | apply IsS51.alloc | apply IsS51.drewN | apply IsS51.drew | apply IsS51.set_0 | apply IsS51.set_1) | exact HI0.out)⟩, ⟨by repeat (first | (with_reducible first | exact HK.out | apply KeepBut.set_ | apply keep_drewN | apply keep_drew | apply keep_alloc) | exact HK.out)⟩, ⟨by repeat (first | (with_reducible first | exact HB.out | apply below_alloc | apply pw_below_drewN | apply below_drew1 | refine below_set ?_ (IsS51.ge HI0.out)) | exact HB.out)⟩⟩
      ·
       rw [if_neg c14] at H
       have c14b0 : ((bt s0_0 x1001_1) == 32) = false := beq_eq_false_iff_ne.mpr c14
       have c14b1 : ((bt s0_0 x1001_1) != 32) = true := bne_iff_ne.mpr c14
       by_cases c16 : (bt s0_0 x1001_1) = 9
       ·
        rw [if_pos c16] at H
        have c16b0 : ((bt s0_0 x1001_1) == 9) = true := beq_iff_eq.mpr c16
        have c16b1 : ((bt s0_0 x1001_1) != 9) = false := bne_eq_false_iff_eq.mpr c16
        clear c16
        have H' := qM H
        clear H
        obtain ⟨HGz17, hgz17⟩ := HI0.out
        have hcz17_0 := cellS51_0 HGz17
        have hcz17_1 := cellS51_1 HGz17
        have hfz17_0 := blk_frozen HGz17 0
        have hfz17_1 := blk_frozen HGz17 1
        clear HGz17 hgz17
        have p4 : 0 ≤ (x1001_1 : Int) := qD
        have q4 : x1001_1 < (s0_0.size : Int) := qD
        have hx4 := bt_at s0_0 x1001_1
        replace p4 := eq_true p4
        replace q4 := eq_true q4
        go_wp2
        repeat (go_quiet (fail); try go_wp2)
        go_roundg k1
        case measure => have := HK1.out; omega
        case rel => exact ⟨(wrap64 (x1001_1 + 1)), H', ⟨by have := HK1.out; omega⟩, ⟨by repeat (first | (with_reducible first | exact HI0.out | apply IsS51.alloc | apply IsS51.drewN | apply IsS51.drew | apply IsS51.set_0 | apply IsS51.set_1) | exact HI0.out)⟩, ⟨by repeat (first | (with_reducible first | exact HK.out | apply KeepBut.set_ | apply keep_drewN | apply keep_drew | apply keep_alloc) | exact HK.out)⟩, ⟨by repeat (first | (with_reducible first | exact HB.out | apply below_alloc | apply pw_below_drewN | apply below_drew1 | refine below_set ?_ (IsS51.ge HI0.out)) | exact HB.out)⟩⟩
       ·
        rw [if_neg c16] at H
        have c16b0 : ((bt s0_0 x1001_1) == 9) = false := beq_eq_false_iff_ne.mpr c16
        have c16b1 : ((bt s0_0 x1001_1) != 9) = true := bne_iff_ne.mpr c16
        by_cases c18 : (bt s0_0 x1001_1) = 10
        ·
         rw [if_pos c18] at H
         have c18b0 : ((bt s0_0 x1001_1) == 10) = true := beq_iff_eq.mpr c18
         have c18b1 : ((bt s0_0 x1001_1) != 10) = false := bne_eq_false_iff_eq.mpr c18
         clear c18
         have H' := qM H
         clear H
         obtain ⟨HGz19, hgz19⟩ := HI0.out
         have hcz19_0 := cellS51_0 HGz19
         have hcz19_1 := cellS51_1 HGz19
         have hfz19_0 := blk_frozen HGz19 0
         have hfz19_1 := blk_frozen HGz19 1
         clear HGz19 hgz19
         have p4 : 0 ≤ (x1001_1 : Int) := qD
         have q4 : x1001_1 < (s0_0.size : Int) := qD
         have hx4 := bt_at s0_0 x1001_1
         replace p4 := eq_true p4
         replace q4 := eq_true q4
         go_wp2
         repeat (go_quiet (fail); try go_wp2)
         go_roundg k1
         case measure => have := HK1.out; omega
         case rel => exact ⟨(wrap64 (x1001_1 + 1)), H', ⟨by have := HK1.out; omega⟩, ⟨by repeat (first | (with_reducible first | exact HI0.out | apply IsS51.alloc | apply IsS51.drewN | apply IsS51.drew | apply IsS51.set_0 | apply IsS51.set_1) | exact HI0.out)⟩, ⟨by repeat (first | (with_reducible first | exact HK.out | apply KeepBut.set_ | apply keep_drewN | apply keep_drew | apply keep_alloc) | exact HK.out)⟩, ⟨by repeat (first | (with_reducible first | exact HB.out | apply below_alloc | apply pw_below_drewN | apply below_drew1 | refine below_set ?_ (IsS51.ge HI0.out)) | exact HB.out)⟩⟩
        ·
         rw [if_neg c18] at H
         have c18b0 : ((bt s0_0 x1001_1) == 10) = false := beq_eq_false_iff_ne.mpr c18
         have c18b1 : ((bt s0_0 x1001_1) != 10) = true := bne_iff_ne.mpr c18
         by_cases c20 : (bt s0_0 x1001_1) = 13
         ·
          rw [if_pos c20] at H
          have c20b0 : ((bt s0_0 x1001_1) == 13) = true := beq_iff_eq.mpr c20
          have c20b1 : ((bt s0_0 x1001_1) != 13) = false := bne_eq_false_iff_eq.mpr c20
          clear c20
          have H' := qM H
          clear H
          obtain ⟨HGz21, hgz21⟩ := HI0.out
          have hcz21_0 := cellS51_0 HGz21
          have hcz21_1 := cellS51_1 HGz21
          have hfz21_0 := blk_frozen HGz21 0
          have hfz21_1 := blk_frozen HGz21 1
          clear HGz21 hgz21
          have p4 : 0 ≤ (x1001_1 : Int) := qD
          have q4 : x1001_1 < (s0_0.size : Int) := qD
          have hx4 := bt_at s0_0 x1001_1
          replace p4 := eq_true p4
          replace q4 := eq_true q4
          go_wp2
          repeat (go_quiet (fail); try go_wp2)
          go_roundg k1
          case measure => have := HK1.out; omega
          case rel => exact ⟨(wrap64 (x1001_1 + 1)), H', ⟨by have := HK1.out; omega⟩, ⟨by repeat (first | (with_reducible first | exact HI0.out | apply IsS51.alloc | apply IsS51.drewN | apply IsS51.drew | apply IsS51.set_0 | apply IsS51.set_1) | exact HI0.out)⟩, ⟨by repeat (first | (with_reducible first | exact HK.out | apply KeepBut.set_ | apply keep_drewN | apply keep_drew | apply keep_alloc) | exact HK.out)⟩, ⟨by repeat (first | (with_reducible first | exact HB.out | apply below_alloc | apply pw_below_drewN | apply below_drew1 | refine below_set ?_ (IsS51.ge HI0.out)) | exact HB.out)⟩⟩
         ·
          rw [if_neg c20] at H
          have c20b0 : ((bt s0_0 x1001_1) == 13) = false := beq_eq_false_iff_ne.mpr c20
          have c20b1 : ((bt s0_0 x1001_1) != 13) = true := bne_iff_ne.mpr c20
          simp only [Option.some.injEq, Prod.mk.injEq] at H
          obtain ⟨rfl, rfl⟩ := H
          obtain ⟨HGz22, hgz22⟩ := HI0.out
          have hcz22_0 := cellS51_0 HGz22
          have hcz22_1 := cellS51_1 HGz22
          have hfz22_0 := blk_frozen HGz22 0
          have hfz22_1 := blk_frozen HGz22 1
          clear HGz22 hgz22
          have p4 : 0 ≤ (x1001_1 : Int) := qD
          have q4 : x1001_1 < (s0_0.size : Int) := qD
          have hx4 := bt_at s0_0 x1001_1
          replace p4 := eq_true p4
          replace q4 := eq_true q4
          go_wp2
          repeat (go_quiet (fail); try go_wp2)
          first | go_end0 | ((try simp only [Exit.inBlock, Exit.then]); refine bodyPost_ret (results_none rfl _ _ _) rfl ?_)
          exact ⟨by first | rfl | (simp [errW_none, errW_some] <;> rfl) | (simp [*, errW_none, errW_some] <;> rfl), by repeat (first | (with_reducible first | exact HI0.out | apply IsS51.alloc | apply IsS51.drewN | apply IsS51.drew | apply IsS51.set_0 | apply IsS51.set_1) | exact HI0.out), by repeat (first | (with_reducible first | exact HB.out | apply below_alloc | apply pw_below_drewN | apply below_drew1 | refine below_set ?_ (IsS51.ge HI0.out)) | exact HB.out), by repeat (first | (with_reducible first | exact HK.out | apply KeepBut.set_ | apply keep_drewN | apply keep_drew | apply keep_alloc) | exact HK.out)⟩
    ·
     rw [if_neg c3] at H
     exact absurd H (by simp)
   ·
    rw [if_neg c2] at H
    have c2b0 : decide (x1001_1 < (s0_0.size : Int)) = false := decide_eq_false c2
    clear c2
    simp only [Option.some.injEq, Prod.mk.injEq] at H
    obtain ⟨rfl, rfl⟩ := H
    obtain ⟨HGz23, hgz23⟩ := HI0.out
    have hcz23_0 := cellS51_0 HGz23
    have hcz23_1 := cellS51_1 HGz23
    have hfz23_0 := blk_frozen HGz23 0
    have hfz23_1 := blk_frozen HGz23 1
    clear HGz23 hgz23
    go_wp2
    repeat (go_quiet (fail); try go_wp2)
    first | go_end0 | ((try simp only [Exit.inBlock, Exit.then]); refine bodyPost_ret (results_none rfl _ _ _) rfl ?_)
    exact ⟨by first | rfl | (simp [errW_none, errW_some] <;> rfl) | (simp [*, errW_none, errW_some] <;> rfl), by repeat (first | (with_reducible first | exact HI0.out | apply IsS51.alloc | apply IsS51.drewN | apply IsS51.drew | apply IsS51.set_0 | apply IsS51.set_1) | exact HI0.out), by repeat (first | (with_reducible first | exact HB.out | apply below_alloc | apply pw_below_drewN | apply below_drew1 | refine below_set ?_ (IsS51.ge HI0.out)) | exact HB.out), by repeat (first | (with_reducible first | exact HK.out | apply KeepBut.set_ | apply keep_drewN | apply keep_drew | apply keep_alloc) | exact HK.out)⟩

/-! ### lex_scanner_here: function 24 -/
def lex_scanner_here.f (s0_0 : ByteArray) (s0_1 : Int) : Option (Int × ByteArray × Int) := if s0_1 < (s0_0.size : Int) then (if 0 ≤ s0_1 then (some (bt s0_0 s0_1, s0_0, s0_1)) else (none)) else (some (0, s0_0, s0_1))
set_option maxHeartbeats 8000000 in
set_option maxRecDepth 100000 in
theorem lex_scanner_here.calls (g : Nat) (s0_0 : ByteArray) (s0_1 : Int) (r1 : Int) (r2 : ByteArray) (r3 : Int) (w0 w : World) (hI : IsS51 w0 w g s0_0 s0_1) (hB : Below w0.heap.size w0 w) (h : lex_scanner_here.f s0_0 s0_1 = some (r1, r2, r3)) :
  Calls Tryd.prog 24 #[.pointer (some ⟨g, 0, none⟩)] w fun e w' => e = .returned (.int .u8 r1) ∧ IsS51 w0 w' g r2 r3 ∧ Below w0.heap.size w0 w' ∧ KeepBut w w' g none := by
 have HI0 := qM hI
 have HK := qM (KeepBut.refl w g none)
 have HL := qM hB.size
 clear hI
 have HW0 := qM hB.size
 have HB := qM hB
 clear hB
 have H : (if s0_1 < (s0_0.size : Int) then (if 0 ≤ s0_1 then (some (bt s0_0 s0_1, s0_0, s0_1)) else (none)) else (some (0, s0_0, s0_1))) = some (r1, r2, r3) := h
 clear h
 by_cases c2 : s0_1 < (s0_0.size : Int)
 ·
  rw [if_pos c2] at H
  have c2b0 : decide (s0_1 < (s0_0.size : Int)) = true := decide_eq_true c2
  clear c2
  by_cases c3 : 0 ≤ s0_1
  ·
   rw [if_pos c3] at H
   have c3b0 : decide (0 ≤ s0_1) = true := decide_eq_true c3
   clear c3
   simp only [Option.some.injEq, Prod.mk.injEq] at H
   obtain ⟨rfl, rfl, rfl⟩ := H
   obtain ⟨HGz5, hgz5⟩ := HI0.out
   have hcz5_0 := cellS51_0 HGz5
   have hcz5_1 := cellS51_1 HGz5
   have hfz5_0 := blk_frozen HGz5 0
   have hfz5_1 := blk_frozen HGz5 1
   clear HGz5 hgz5
   have p4 : 0 ≤ (s0_1 : Int) := qD
   have q4 : s0_1 < (s0_0.size : Int) := qD
   have hx4 := bt_at s0_0 s0_1
   replace p4 := eq_true p4
   replace q4 := eq_true q4
   go_enter Tryd.func24, Tryd.ntmps24
   go_wp2
   repeat (go_quiet (fail); try go_wp2)
   go_ret
   exact ⟨by first | rfl | (simp [errW_none, errW_some] <;> rfl) | (simp [*, errW_none, errW_some] <;> rfl), by repeat (first | (with_reducible first | exact HI0.out | apply IsS51.alloc | apply IsS51.drewN | apply IsS51.drew | apply IsS51.set_0 | apply IsS51.set_1) | exact HI0.out), by repeat (first | (with_reducible first | exact HB.out | apply below_alloc | apply pw_below_drewN | apply below_drew1 | refine below_set ?_ (IsS51.ge HI0.out)) | exact HB.out), by repeat (first | (with_reducible first | exact HK.out | apply KeepBut.set_ | apply keep_drewN | apply keep_drew | apply keep_alloc) | exact HK.out)⟩
  ·
   rw [if_neg c3] at H
   exact absurd H (by simp)
 ·
  rw [if_neg c2] at H
  have c2b0 : decide (s0_1 < (s0_0.size : Int)) = false := decide_eq_false c2
  clear c2
  simp only [Option.some.injEq, Prod.mk.injEq] at H
  obtain ⟨rfl, rfl, rfl⟩ := H
  obtain ⟨HGz6, hgz6⟩ := HI0.out
  have hcz6_0 := cellS51_0 HGz6
  have hcz6_1 := cellS51_1 HGz6
  have hfz6_0 := blk_frozen HGz6 0
  have hfz6_1 := blk_frozen HGz6 1
  clear HGz6 hgz6
  go_enter Tryd.func24, Tryd.ntmps24
  go_wp2
  repeat (go_quiet (fail); try go_wp2)
  go_ret
  exact ⟨by first | rfl | (simp [errW_none, errW_some] <;> rfl) | (simp [*, errW_none, errW_some] <;> rfl), by repeat (first | (with_reducible first | exact HI0.out | apply IsS51.alloc | apply IsS51.drewN | apply IsS51.drew | apply IsS51.set_0 | apply IsS51.set_1) | exact HI0.out), by repeat (first | (with_reducible first | exact HB.out | apply below_alloc | apply pw_below_drewN | apply below_drew1 | refine below_set ?_ (IsS51.ge HI0.out)) | exact HB.out), by repeat (first | (with_reducible first | exact HK.out | apply KeepBut.set_ | apply keep_drewN | apply keep_drew | apply keep_alloc) | exact HK.out)⟩

/-! ### strings_IndexByte: function 52 -/
def strings_IndexByte.f (a0 : ByteArray) (a1 : Int) : Option Int := some (Lib.indexByte a0.data.toList a1.toNat.toUInt8)
theorem strings_IndexByte.calls (a0 : ByteArray) (a1 : Int) (r : Int) (w : World) (h : strings_IndexByte.f a0 a1 = some r) :
  Calls Tryd.prog 52 #[.string a0, .int .u8 a1] w fun e w' => e = .returned (.int .i64 r) ∧ Drawn0 w w' := by
 injection h with h
 subst h
 exact indexByte_calls a0 a1 w
/-! ### lex_scanner_escape: function 42 -/
def lex_scanner_escape.j0 : Nat → Int → Int → Bool → ByteArray → Int → Option (Int × Bool × ByteArray × Int)
 | 0, _, _, _, _, _ => none
 | k + 1, x4, x16, x21, x1000, x1001 => if x21 = true then (some (x4, true, x1000, x1001)) else (if x16 = 120 then (if (wrap64 (x1001 + 2)) > (x1000.size : Int) then (some (0, false, x1000, x1001)) else (if 0 ≤ x1001 then (if x1001 < (x1000.size : Int) then ((strings_IndexByte.f (⟨#[48, 49, 50, 51, 52, 53, 54, 55, 56, 57, 97, 98, 99, 100, 101, 102]⟩ : ByteArray) (bt x1000 x1001)).bind fun t104 => (if 0 ≤ (wrap64 (x1001 + 1)) then (if (wrap64 (x1001 + 1)) < (x1000.size : Int) then ((strings_IndexByte.f (⟨#[48, 49, 50, 51, 52, 53, 54, 55, 56, 57, 97, 98, 99, 100, 101, 102]⟩ : ByteArray) (bt x1000 (wrap64 (x1001 + 1)))).bind fun t105 => (if t104 ≥ 0 then (some ((Go.bits .or .i64 (wrap64 (t104 * 16)) (Go.bits .and .i64 t105 15)) % 256, decide (t105 ≥ 0), x1000, wrap64 (x1001 + 2))) else (some ((Go.bits .or .i64 (wrap64 (t104 * 16)) (Go.bits .and .i64 t105 15)) % 256, false, x1000, wrap64 (x1001 + 2))))) else (none)) else (none))) else (none)) else (none))) else (some (0, false, x1000, x1001)))
def lex_scanner_escape.f (k : Nat) (s0_0 : ByteArray) (s0_1 : Int) : Option (Int × Bool × ByteArray × Int) := (lex_scanner_here.f s0_0 s0_1).bind fun bt101 => (if bt101.1 = 110 then (some (10, true, bt101.2.1, wrap64 (bt101.2.2 + 1))) else (if bt101.1 = 116 then (some (9, true, bt101.2.1, wrap64 (bt101.2.2 + 1))) else (if bt101.1 = 34 then (lex_scanner_escape.j0 k bt101.1 bt101.1 (bt101.1 == 34) bt101.2.1 (wrap64 (bt101.2.2 + 1))) else (lex_scanner_escape.j0 k bt101.1 bt101.1 (bt101.1 == 92) bt101.2.1 (wrap64 (bt101.2.2 + 1))))))
theorem lex_scanner_escape.mono_l : ∀ k, (∀ y0 y1 y2 y3 y4, LeO (lex_scanner_escape.j0 k y0 y1 y2 y3 y4) (lex_scanner_escape.j0 (k + 1) y0 y1 y2 y3 y4))
 | 0 => fun _ _ _ _ _ r h => by simp [lex_scanner_escape.j0] at h
 | k + 1 => by
  have ih0 := lex_scanner_escape.mono_l k
  ·
   intro y0 y1 y2 y3 y4
   unfold lex_scanner_escape.j0
   repeat' first
   | (with_reducible exact ih0 _ _ _ _ _)
   | (with_reducible exact LeO.refl _)
   | (with_reducible exact LeO.none _)
   | (with_reducible refine LeO.ite ?_ ?_)
   | (with_reducible refine LeO.bind ?_ (fun _ => ?_))
   | exact ih0 _ _ _ _ _
   | exact LeO.none _
   | refine LeO.ite ?_ ?_
   | refine LeO.bind ?_ (fun _ => ?_)
theorem lex_scanner_escape.mono : ∀ a0 a1 k, LeO (lex_scanner_escape.f k a0 a1) (lex_scanner_escape.f (k + 1) a0 a1) := by
 intro a0 a1 k
 have ih0 := lex_scanner_escape.mono_l k
 unfold lex_scanner_escape.f
 repeat' first
   | (with_reducible exact ih0 _ _ _ _ _)
   | (with_reducible exact LeO.refl _)
   | (with_reducible exact LeO.none _)
   | (with_reducible refine LeO.ite ?_ ?_)
   | (with_reducible refine LeO.bind ?_ (fun _ => ?_))
   | exact ih0 _ _ _ _ _
   | exact LeO.none _
   | refine LeO.ite ?_ ?_
   | refine LeO.bind ?_ (fun _ => ?_)
set_option maxHeartbeats 8000000 in
set_option maxRecDepth 100000 in
theorem lex_scanner_escape.calls (k : Nat) (g : Nat) (s0_0 : ByteArray) (s0_1 : Int) (r1 : Int) (r2 : Bool) (r3 : ByteArray) (r4 : Int) (w0 w : World) (hI : IsS51 w0 w g s0_0 s0_1) (hB : Below w0.heap.size w0 w) (h : lex_scanner_escape.f k s0_0 s0_1 = some (r1, r2, r3, r4)) :
  Calls Tryd.prog 42 #[.pointer (some ⟨g, 0, none⟩)] w fun e w' => e = .returned (.tuple #[.int .u8 r1, .bool r2]) ∧ IsS51 w0 w' g r3 r4 ∧ Below w0.heap.size w0 w' ∧ KeepBut w w' g none := by
 have HI0 := qM hI
 have HK := qM (KeepBut.refl w g none)
 have HL := qM hB.size
 clear hI
 have HW0 := qM hB.size
 have HB := qM hB
 clear hB
 have H : ((lex_scanner_here.f s0_0 s0_1).bind fun bt101 => (if bt101.1 = 110 then (some (10, true, bt101.2.1, wrap64 (bt101.2.2 + 1))) else (if bt101.1 = 116 then (some (9, true, bt101.2.1, wrap64 (bt101.2.2 + 1))) else (if bt101.1 = 34 then (lex_scanner_escape.j0 k bt101.1 bt101.1 (bt101.1 == 34) bt101.2.1 (wrap64 (bt101.2.2 + 1))) else (lex_scanner_escape.j0 k bt101.1 bt101.1 (bt101.1 == 92) bt101.2.1 (wrap64 (bt101.2.2 + 1))))))) = some (r1, r2, r3, r4) := h
 clear h
 replace H := Option.bind_eq_some_iff.mp H
 obtain ⟨⟨t101, t102, t103⟩, A20, H⟩ := H
 replace H : (if t101 = 110 then (some (10, true, t102, wrap64 (t103 + 1))) else (if t101 = 116 then (some (9, true, t102, wrap64 (t103 + 1))) else (if t101 = 34 then (lex_scanner_escape.j0 k t101 t101 (t101 == 34) t102 (wrap64 (t103 + 1))) else (lex_scanner_escape.j0 k t101 t101 (t101 == 92) t102 (wrap64 (t103 + 1)))))) = some (r1, r2, r3, r4) := H
 have A2 := qM A20
 clear A20
 by_cases c3 : t101 = 110
 ·
  rw [if_pos c3] at H
  have c3b0 : (t101 == 110) = true := beq_iff_eq.mpr c3
  have c3b1 : (t101 != 110) = false := bne_eq_false_iff_eq.mpr c3
  clear c3
  simp only [Option.some.injEq, Prod.mk.injEq] at H
  obtain ⟨rfl, rfl, rfl, rfl⟩ := H
  go_enter Tryd.func42, Tryd.ntmps42
  go_wp2_with (first | (go_at_call 24; (with_reducible refine (lex_scanner_here.calls g s0_0 s0_1 t101 t102 t103 w0 _ ?side1 ?side2 A2.out).mono ?_); (case side1 => repeat (first | (with_reducible first | exact HI0.out | apply IsS51.alloc | apply IsS51.drewN | apply IsS51.drew | apply IsS51.set_0 | apply IsS51.set_1) | exact HI0.out)); (case side2 => repeat (first | (with_reducible first | exact HB.out | apply below_alloc | apply pw_below_drewN | apply below_drew1 | refine below_set ?_ (IsS51.ge HI0.out)) | exact HB.out)); rintro e w4 ⟨rfl, hi, hb, hk⟩; have n0_ := qM (KeepBut.trans (by repeat (first | (with_reducible first | exact HK.out | apply KeepBut.set_ | apply keep_drewN | apply keep_drew | apply keep_alloc) | exact HK.out)) hk (.inl rfl)); have n1_ := qM (hb); have n2_ := qM (hi); clear HK; clear HB; clear HI0; have HK := n0_; have HB := n1_; have HI0 := n2_; clear n0_ n1_ n2_; (try clear hb); (try clear hb2); (try clear hk); (try clear hi); obtain ⟨HGz5, hgz5⟩ := HI0.out; have hcz5_0 := cellS51_0 HGz5; have hcz5_1 := cellS51_1 HGz5; have hfz5_0 := blk_frozen HGz5 0; have hfz5_1 := blk_frozen HGz5 1; clear HGz5 hgz5))
  repeat (go_quiet (first | (go_at_call 24; (with_reducible refine (lex_scanner_here.calls g s0_0 s0_1 t101 t102 t103 w0 _ ?side1 ?side2 A2.out).mono ?_); (case side1 => repeat (first | (with_reducible first | exact HI0.out | apply IsS51.alloc | apply IsS51.drewN | apply IsS51.drew | apply IsS51.set_0 | apply IsS51.set_1) | exact HI0.out)); (case side2 => repeat (first | (with_reducible first | exact HB.out | apply below_alloc | apply pw_below_drewN | apply below_drew1 | refine below_set ?_ (IsS51.ge HI0.out)) | exact HB.out)); rintro e w4 ⟨rfl, hi, hb, hk⟩; have n0_ := qM (KeepBut.trans (by repeat (first | (with_reducible first | exact HK.out | apply KeepBut.set_ | apply keep_drewN | apply keep_drew | apply keep_alloc) | exact HK.out)) hk (.inl rfl)); have n1_ := qM (hb); have n2_ := qM (hi); clear HK; clear HB; clear HI0; have HK := n0_; have HB := n1_; have HI0 := n2_; clear n0_ n1_ n2_; (try clear hb); (try clear hb2); (try clear hk); (try clear hi); obtain ⟨HGz5, hgz5⟩ := HI0.out; have hcz5_0 := cellS51_0 HGz5; have hcz5_1 := cellS51_1 HGz5; have hfz5_0 := blk_frozen HGz5 0; have hfz5_1 := blk_frozen HGz5 1; clear HGz5 hgz5)); try go_wp2_with (first | (go_at_call 24; (with_reducible refine (lex_scanner_here.calls g s0_0 s0_1 t101 t102 t103 w0 _ ?side1 ?side2 A2.out).mono ?_); (case side1 => repeat (first | (with_reducible first | exact HI0.out | apply IsS51.alloc | apply IsS51.drewN | apply IsS51.drew | apply IsS51.set_0 | apply IsS51.set_1) | exact HI0.out)); (case side2 => repeat (first | (with_reducible first | exact HB.out | apply below_alloc | apply pw_below_drewN | apply below_drew1 | refine below_set ?_ (IsS51.ge HI0.out)) | exact HB.out)); rintro e w4 ⟨rfl, hi, hb, hk⟩; have n0_ := qM (KeepBut.trans (by repeat (first | (with_reducible first | exact HK.out | apply KeepBut.set_ | apply keep_drewN | apply keep_drew | apply keep_alloc) | exact HK.out)) hk (.inl rfl)); have n1_ := qM (hb); have n2_ := qM (hi); clear HK; clear HB; clear HI0; have HK := n0_; have HB := n1_; have HI0 := n2_; clear n0_ n1_ n2_; (try clear hb); (try clear hb2); (try clear hk); (try clear hi); obtain ⟨HGz5, hgz5⟩ := HI0.out; have hcz5_0 := cellS51_0 HGz5; have hcz5_1 := cellS51_1 HGz5; have hfz5_0 := blk_frozen HGz5 0; have hfz5_1 := blk_frozen HGz5 1; clear HGz5 hgz5)))
  go_ret2
  exact ⟨by first | rfl | (simp [errW_none, errW_some] <;> rfl) | (simp [*, errW_none, errW_some] <;> rfl), by repeat (first | (with_reducible first | exact HI0.out | apply IsS51.alloc | apply IsS51.drewN | apply IsS51.drew | apply IsS51.set_0 | apply IsS51.set_1) | exact HI0.out), by repeat (first | (with_reducible first | exact HB.out | apply below_alloc | apply pw_below_drewN | apply below_drew1 | refine below_set ?_ (IsS51.ge HI0.out)) | exact HB.out), by repeat (first | (with_reducible first | exact HK.out | apply KeepBut.set_ | apply keep_drewN | apply keep_drew | apply keep_alloc) | exact HK.out)⟩
 ·
  rw [if_neg c3] at H
  have c3b0 : (t101 == 110) = false := beq_eq_false_iff_ne.mpr c3
  have c3b1 : (t101 != 110) = true := bne_iff_ne.mpr c3
  by_cases c6 : t101 = 116
  ·
   rw [if_pos c6] at H
   have c6b0 : (t101 == 116) = true := beq_iff_eq.mpr c6
   have c6b1 : (t101 != 116) = false := bne_eq_false_iff_eq.mpr c6
   clear c6
   simp only [Option.some.injEq, Prod.mk.injEq] at H
   obtain ⟨rfl, rfl, rfl, rfl⟩ := H
   go_enter Tryd.func42, Tryd.ntmps42
   go_wp2_with (first | (go_at_call 24; (with_reducible refine (lex_scanner_here.calls g s0_0 s0_1 t101 t102 t103 w0 _ ?side1 ?side2 A2.out).mono ?_); (case side1 => repeat (first | (with_reducible first | exact HI0.out | apply IsS51.alloc | apply IsS51.drewN | apply IsS51.drew | apply IsS51.set_0 | apply IsS51.set_1) | exact HI0.out)); (case side2 => repeat (first | (with_reducible first | exact HB.out | apply below_alloc | apply pw_below_drewN | apply below_drew1 | refine below_set ?_ (IsS51.ge HI0.out)) | exact HB.out)); rintro e w7 ⟨rfl, hi, hb, hk⟩; have n0_ := qM (KeepBut.trans (by repeat (first | (with_reducible first | exact HK.out | apply KeepBut.set_ | apply keep_drewN | apply keep_drew | apply keep_alloc) | exact HK.out)) hk (.inl rfl)); have n1_ := qM (hb); have n2_ := qM (hi); clear HK; clear HB; clear HI0; have HK := n0_; have HB := n1_; have HI0 := n2_; clear n0_ n1_ n2_; (try clear hb); (try clear hb2); (try clear hk); (try clear hi); obtain ⟨HGz8, hgz8⟩ := HI0.out; have hcz8_0 := cellS51_0 HGz8; have hcz8_1 := cellS51_1 HGz8; have hfz8_0 := blk_frozen HGz8 0; have hfz8_1 := blk_frozen HGz8 1; clear HGz8 hgz8))
   repeat (go_quiet (first | (go_at_call 24; (with_reducible refine (lex_scanner_here.calls g s0_0 s0_1 t101 t102 t103 w0 _ ?side1 ?side2 A2.out).mono ?_); (case side1 => repeat (first | (with_reducible first | exact HI0.out | apply IsS51.alloc | apply IsS51.drewN | apply IsS51.drew | apply IsS51.set_0 | apply IsS51.set_1) | exact HI0.out)); (case side2 => repeat (first | (with_reducible first | exact HB.out | apply below_alloc | apply pw_below_drewN | apply below_drew1 | refine below_set ?_ (IsS51.ge HI0.out)) | exact HB.out)); rintro e w7 ⟨rfl, hi, hb, hk⟩; have n0_ := qM (KeepBut.trans (by repeat (first | (with_reducible first | exact HK.out | apply KeepBut.set_ | apply keep_drewN | apply keep_drew | apply keep_alloc) | exact HK.out)) hk (.inl rfl)); have n1_ := qM (hb); have n2_ := qM (hi); clear HK; clear HB; clear HI0; have HK := n0_; have HB := n1_; have HI0 := n2_; clear n0_ n1_ n2_; (try clear hb); (try clear hb2); (try clear hk); (try clear hi); obtain ⟨HGz8, hgz8⟩ := HI0.out; have hcz8_0 := cellS51_0 HGz8; have hcz8_1 := cellS51_1 HGz8; have hfz8_0 := blk_frozen HGz8 0; have hfz8_1 := blk_frozen HGz8 1; clear HGz8 hgz8)); try go_wp2_with (first | (go_at_call 24; (with_reducible refine (lex_scanner_here.calls g s0_0 s0_1 t101 t102 t103 w0 _ ?side1 ?side2 A2.out).mono ?_); (case side1 => repeat (first | (with_reducible first | exact HI0.out | apply IsS51.alloc | apply IsS51.drewN | apply IsS51.drew | apply IsS51.set_0 | apply IsS51.set_1) | exact HI0.out)); (case side2 => repeat (first | (with_reducible first | exact HB.out | apply below_alloc | apply pw_below_drewN | apply below_drew1 | refine below_set ?_ (IsS51.ge HI0.out)) | exact HB.out)); rintro e w7 ⟨rfl, hi, hb, hk⟩; have n0_ := qM (KeepBut.trans (by repeat (first | (with_reducible first | exact HK.out | apply KeepBut.set_ | apply keep_drewN | apply keep_drew | apply keep_alloc) | exact HK.out)) hk (.inl rfl)); have n1_ := qM (hb); have n2_ := qM (hi); clear HK; clear HB; clear HI0; have HK := n0_; have HB := n1_; have HI0 := n2_; clear n0_ n1_ n2_; (try clear hb); (try clear hb2); (try clear hk); (try clear hi); obtain ⟨HGz8, hgz8⟩ := HI0.out; have hcz8_0 := cellS51_0 HGz8; have hcz8_1 := cellS51_1 HGz8; have hfz8_0 := blk_frozen HGz8 0; have hfz8_1 := blk_frozen HGz8 1; clear HGz8 hgz8)))
   go_ret2
   exact ⟨by first | rfl | (simp [errW_none, errW_some] <;> rfl) | (simp [*, errW_none, errW_some] <;> rfl), by repeat (first | (with_reducible first | exact HI0.out | apply IsS51.alloc | apply IsS51.drewN | apply IsS51.drew | apply IsS51.set_0 | apply IsS51.set_1) | exact HI0.out), by repeat (first | (with_reducible first | exact HB.out | apply below_alloc | apply pw_below_drewN | apply below_drew1 | refine below_set ?_ (IsS51.ge HI0.out)) | exact HB.out), by repeat (first | (with_reducible first | exact HK.out | apply KeepBut.set_ | apply keep_drewN | apply keep_drew | apply keep_alloc) | exact HK.out)⟩
  ·
   rw [if_neg c6] at H
   have c6b0 : (t101 == 116) = false := beq_eq_false_iff_ne.mpr c6
   have c6b1 : (t101 != 116) = true := bne_iff_ne.mpr c6
   have HC9 := qM H
   clear H
   go_enter Tryd.func42, Tryd.ntmps42
   go_upto_if 21 with (first | (go_at_call 24; (with_reducible refine (lex_scanner_here.calls g s0_0 s0_1 t101 t102 t103 w0 _ ?side1 ?side2 A2.out).mono ?_); (case side1 => repeat (first | (with_reducible first | exact HI0.out | apply IsS51.alloc | apply IsS51.drewN | apply IsS51.drew | apply IsS51.set_0 | apply IsS51.set_1) | exact HI0.out)); (case side2 => repeat (first | (with_reducible first | exact HB.out | apply below_alloc | apply pw_below_drewN | apply below_drew1 | refine below_set ?_ (IsS51.ge HI0.out)) | exact HB.out)); rintro e w10 ⟨rfl, hi, hb, hk⟩; have n0_ := qM (KeepBut.trans (by repeat (first | (with_reducible first | exact HK.out | apply KeepBut.set_ | apply keep_drewN | apply keep_drew | apply keep_alloc) | exact HK.out)) hk (.inl rfl)); have n1_ := qM (hb); have n2_ := qM (hi); clear HK; clear HB; clear HI0; have HK := n0_; have HB := n1_; have HI0 := n2_; clear n0_ n1_ n2_; (try clear hb); (try clear hb2); (try clear hk); (try clear hi); obtain ⟨HGz11, hgz11⟩ := HI0.out; have hcz11_0 := cellS51_0 HGz11; have hcz11_1 := cellS51_1 HGz11; have hfz11_0 := blk_frozen HGz11 0; have hfz11_1 := blk_frozen HGz11 1; clear HGz11 hgz11))
   repeat (go_quiet (first | (go_at_call 24; (with_reducible refine (lex_scanner_here.calls g s0_0 s0_1 t101 t102 t103 w0 _ ?side1 ?side2 A2.out).mono ?_); (case side1 => repeat (first | (with_reducible first | exact HI0.out | apply IsS51.alloc | apply IsS51.drewN | apply IsS51.drew | apply IsS51.set_0 | apply IsS51.set_1) | exact HI0.out)); (case side2 => repeat (first | (with_reducible first | exact HB.out | apply below_alloc | apply pw_below_drewN | apply below_drew1 | refine below_set ?_ (IsS51.ge HI0.out)) | exact HB.out)); rintro e w10 ⟨rfl, hi, hb, hk⟩; have n0_ := qM (KeepBut.trans (by repeat (first | (with_reducible first | exact HK.out | apply KeepBut.set_ | apply keep_drewN | apply keep_drew | apply keep_alloc) | exact HK.out)) hk (.inl rfl)); have n1_ := qM (hb); have n2_ := qM (hi); clear HK; clear HB; clear HI0; have HK := n0_; have HB := n1_; have HI0 := n2_; clear n0_ n1_ n2_; (try clear hb); (try clear hb2); (try clear hk); (try clear hi); obtain ⟨HGz11, hgz11⟩ := HI0.out; have hcz11_0 := cellS51_0 HGz11; have hcz11_1 := cellS51_1 HGz11; have hfz11_0 := blk_frozen HGz11 0; have hfz11_1 := blk_frozen HGz11 1; clear HGz11 hgz11)); go_upto_if 21 with (first | (go_at_call 24; (with_reducible refine (lex_scanner_here.calls g s0_0 s0_1 t101 t102 t103 w0 _ ?side1 ?side2 A2.out).mono ?_); (case side1 => repeat (first | (with_reducible first | exact HI0.out | apply IsS51.alloc | apply IsS51.drewN | apply IsS51.drew | apply IsS51.set_0 | apply IsS51.set_1) | exact HI0.out)); (case side2 => repeat (first | (with_reducible first | exact HB.out | apply below_alloc | apply pw_below_drewN | apply below_drew1 | refine below_set ?_ (IsS51.ge HI0.out)) | exact HB.out)); rintro e w10 ⟨rfl, hi, hb, hk⟩; have n0_ := qM (KeepBut.trans (by repeat (first | (with_reducible first | exact HK.out | apply KeepBut.set_ | apply keep_drewN | apply keep_drew | apply keep_alloc) | exact HK.out)) hk (.inl rfl)); have n1_ := qM (hb); have n2_ := qM (hi); clear HK; clear HB; clear HI0; have HK := n0_; have HB := n1_; have HI0 := n2_; clear n0_ n1_ n2_; (try clear hb); (try clear hb2); (try clear hk); (try clear hi); obtain ⟨HGz11, hgz11⟩ := HI0.out; have hcz11_0 := cellS51_0 HGz11; have hcz11_1 := cellS51_1 HGz11; have hfz11_0 := blk_frozen HGz11 0; have hfz11_1 := blk_frozen HGz11 1; clear HGz11 hgz11)))
   (try simp only [Act.put, List.setIfInBounds_toArray, List.set_cons_zero, List.set_cons_succ])
   go_cut [21] (fun v21 wc => ∃ (kq : Nat) (x21_8 : Bool), v21 = .bool x21_8 ∧ Aside0 (lex_scanner_escape.j0 kq t101 t101 x21_8 t102 (wrap64 (t103 + 1)) = some (r1, r2, r3, r4)) ∧ Aside0 (kq ≤ k) ∧ Aside0 (IsS51 w0 wc g t102 (wrap64 (t103 + 1))) ∧ Aside0 (KeepBut w wc g none) ∧ Aside0 (Below w0.heap.size w0 wc))
   case first =>
    have H := HC9.out
    clear HC9
    by_cases c12 : t101 = 34
    ·
     rw [if_pos c12] at H
     have c12b0 : (t101 == 34) = true := beq_iff_eq.mpr c12
     have c12b1 : (t101 != 34) = false := bne_eq_false_iff_eq.mpr c12
     clear c12
     (first | rw [c12b0] | (simp only [i64_w, i32_w]; rw [c12b0]) | skip)
     have H' := qM H
     clear H
     go_wp2
     repeat (go_quiet (fail); try go_wp2)
     go_meet
     case rel => exact ⟨_, ((t101 == 34)), qS, H', ⟨by first | omega | exact Nat.le_refl _⟩, ⟨by repeat (first | (with_reducible first | exact HI0.out | apply IsS51.alloc | apply IsS51.drewN | apply IsS51.drew | apply IsS51.set_0 | apply IsS51.set_1) | exact HI0.out)⟩, ⟨by repeat (first | (with_reducible first | exact HK.out | apply KeepBut.set_ | apply keep_drewN | apply keep_drew | apply keep_alloc) | exact HK.out)⟩, ⟨by repeat (first | (with_reducible first | exact HB.out | apply below_alloc | apply pw_below_drewN | apply below_drew1 | refine below_set ?_ (IsS51.ge HI0.out)) | exact HB.out)⟩⟩
    ·
     rw [if_neg c12] at H
     have c12b0 : (t101 == 34) = false := beq_eq_false_iff_ne.mpr c12
     have c12b1 : (t101 != 34) = true := bne_iff_ne.mpr c12
     (first | rw [c12b0] | (simp only [i64_w, i32_w]; rw [c12b0]) | skip)
     have H' := qM H
     clear H
     go_wp2
     repeat (go_quiet (fail); try go_wp2)
     go_meet
     case rel => exact ⟨_, ((t101 == 92)), qS, H', ⟨by first | omega | exact Nat.le_refl _⟩, ⟨by repeat (first | (with_reducible first | exact HI0.out | apply IsS51.alloc | apply IsS51.drewN | apply IsS51.drew | apply IsS51.set_0 | apply IsS51.set_1) | exact HI0.out)⟩, ⟨by repeat (first | (with_reducible first | exact HK.out | apply KeepBut.set_ | apply keep_drewN | apply keep_drew | apply keep_alloc) | exact HK.out)⟩, ⟨by repeat (first | (with_reducible first | exact HB.out | apply below_alloc | apply pw_below_drewN | apply below_drew1 | refine below_set ?_ (IsS51.ge HI0.out)) | exact HB.out)⟩⟩
   case rest =>
    clear HC9; try clear c1; try clear p2; try clear c3; try clear c3b0; try clear c3b1; try clear c4; try clear c6; try clear c6b0; try clear c6b1; try clear p6; try clear c12; try clear c12b0; try clear c12b1; try clear hcz11_0; try clear hcz11_1; try clear hcz5_0; try clear hcz5_1; try clear hcz8_0; try clear hcz8_1; try clear hfz11_0; try clear hfz11_1; try clear hfz5_0; try clear hfz5_1; try clear hfz8_0; try clear hfz8_1
    obtain ⟨kq, x21_8, rfl, HA, HJ8, HI0, HK, HB⟩ := hcut
    cases kq with
    | zero => exact absurd HA.out (by simp [lex_scanner_escape.j0])
    | succ kj8 =>
     have H := HA.out
     clear HA
     simp only [lex_scanner_escape.j0] at H
     by_cases c13 : x21_8 = true
     ·
      subst c13
      have H1 : (some (t101, true, t102, (wrap64 (t103 + 1)))) = some (r1, r2, r3, r4) := by rw [if_pos rfl] at H; exact H
      clear H
      have H := H1
      clear H1
      simp only [Option.some.injEq, Prod.mk.injEq] at H
      obtain ⟨rfl, rfl, rfl, rfl⟩ := H
      go_wp2
      repeat (go_quiet (fail); try go_wp2)
      go_ret2
      exact ⟨by first | rfl | (simp [errW_none, errW_some] <;> rfl) | (simp [*, errW_none, errW_some] <;> rfl), by repeat (first | (with_reducible first | exact HI0.out | apply IsS51.alloc | apply IsS51.drewN | apply IsS51.drew | apply IsS51.set_0 | apply IsS51.set_1) | exact HI0.out), by repeat (first | (with_reducible first | exact HB.out | apply below_alloc | apply pw_below_drewN | apply below_drew1 | refine below_set ?_ (IsS51.ge HI0.out)) | exact HB.out), by repeat (first | (with_reducible first | exact HK.out | apply KeepBut.set_ | apply keep_drewN | apply keep_drew | apply keep_alloc) | exact HK.out)⟩
     ·
      replace c13 := Bool.eq_false_iff.mpr c13
      subst c13
      have H1 : (if t101 = 120 then (if (wrap64 ((wrap64 (t103 + 1)) + 2)) > (t102.size : Int) then (some (0, false, t102, (wrap64 (t103 + 1)))) else (if 0 ≤ (wrap64 (t103 + 1)) then (if (wrap64 (t103 + 1)) < (t102.size : Int) then ((strings_IndexByte.f (⟨#[48, 49, 50, 51, 52, 53, 54, 55, 56, 57, 97, 98, 99, 100, 101, 102]⟩ : ByteArray) (bt t102 (wrap64 (t103 + 1)))).bind fun t104 => (if 0 ≤ (wrap64 ((wrap64 (t103 + 1)) + 1)) then (if (wrap64 ((wrap64 (t103 + 1)) + 1)) < (t102.size : Int) then ((strings_IndexByte.f (⟨#[48, 49, 50, 51, 52, 53, 54, 55, 56, 57, 97, 98, 99, 100, 101, 102]⟩ : ByteArray) (bt t102 (wrap64 ((wrap64 (t103 + 1)) + 1)))).bind fun t105 => (if t104 ≥ 0 then (some ((Go.bits .or .i64 (wrap64 (t104 * 16)) (Go.bits .and .i64 t105 15)) % 256, decide (t105 ≥ 0), t102, wrap64 ((wrap64 (t103 + 1)) + 2))) else (some ((Go.bits .or .i64 (wrap64 (t104 * 16)) (Go.bits .and .i64 t105 15)) % 256, false, t102, wrap64 ((wrap64 (t103 + 1)) + 2))))) else (none)) else (none))) else (none)) else (none))) else (some (0, false, t102, (wrap64 (t103 + 1))))) = some (r1, r2, r3, r4) := by rw [if_neg (show ¬ (false = true) by decide)] at H; exact H
      clear H
      have H := H1
      clear H1
      by_cases c14 : t101 = 120
      ·
       rw [if_pos c14] at H
       have c14b0 : (t101 == 120) = true := beq_iff_eq.mpr c14
       have c14b1 : (t101 != 120) = false := bne_eq_false_iff_eq.mpr c14
       clear c14
       by_cases c15 : (wrap64 ((wrap64 (t103 + 1)) + 2)) > (t102.size : Int)
       ·
        rw [if_pos c15] at H
        have c15b0 : decide ((t102.size : Int) < (wrap64 ((wrap64 (t103 + 1)) + 2))) = true := decide_eq_true c15
        clear c15
        simp only [Option.some.injEq, Prod.mk.injEq] at H
        obtain ⟨rfl, rfl, rfl, rfl⟩ := H
        obtain ⟨HGz16, hgz16⟩ := HI0.out
        have hcz16_0 := cellS51_0 HGz16
        have hcz16_1 := cellS51_1 HGz16
        have hfz16_0 := blk_frozen HGz16 0
        have hfz16_1 := blk_frozen HGz16 1
        clear HGz16 hgz16
        go_wp2
        repeat (go_quiet (fail); try go_wp2)
        go_ret2
        exact ⟨by first | rfl | (simp [errW_none, errW_some] <;> rfl) | (simp [*, errW_none, errW_some] <;> rfl), by repeat (first | (with_reducible first | exact HI0.out | apply IsS51.alloc | apply IsS51.drewN | apply IsS51.drew | apply IsS51.set_0 | apply IsS51.set_1) | exact HI0.out), by repeat (first | (with_reducible first | exact HB.out | apply below_alloc | apply pw_below_drewN | apply below_drew1 | refine below_set ?_ (IsS51.ge HI0.out)) | exact HB.out), by repeat (first | (with_reducible first | exact HK.out | apply KeepBut.set_ | apply keep_drewN | apply keep_drew | apply keep_alloc) | exact HK.out)⟩
       ·
        rw [if_neg c15] at H
        have c15b0 : decide ((t102.size : Int) < (wrap64 ((wrap64 (t103 + 1)) + 2))) = false := decide_eq_false c15
        clear c15
        obtain ⟨ji17, hji17⟩ : ∃ j_ : Int, (wrap64 (t103 + 1)) = j_ := ⟨_, rfl⟩
        replace H : (if 0 ≤ (ji17) then (if (ji17) < (t102.size : Int) then ((strings_IndexByte.f (⟨#[48, 49, 50, 51, 52, 53, 54, 55, 56, 57, 97, 98, 99, 100, 101, 102]⟩ : ByteArray) (bt t102 (ji17))).bind fun t104 => (if 0 ≤ (wrap64 ((ji17) + 1)) then (if (wrap64 ((ji17) + 1)) < (t102.size : Int) then ((strings_IndexByte.f (⟨#[48, 49, 50, 51, 52, 53, 54, 55, 56, 57, 97, 98, 99, 100, 101, 102]⟩ : ByteArray) (bt t102 (wrap64 ((ji17) + 1)))).bind fun t105 => (if t104 ≥ 0 then (some ((Go.bits .or .i64 (wrap64 (t104 * 16)) (Go.bits .and .i64 t105 15)) % 256, decide (t105 ≥ 0), t102, wrap64 ((ji17) + 2))) else (some ((Go.bits .or .i64 (wrap64 (t104 * 16)) (Go.bits .and .i64 t105 15)) % 256, false, t102, wrap64 ((ji17) + 2))))) else (none)) else (none))) else (none)) else (none)) = some (r1, r2, r3, r4) := by first | (rw [hji17] at H; exact H) | (simp only [hji17] at H ⊢; exact H)
        (try rw [hji17] at c15b0)
        have hji17w : (IntKind.i64.wrap (t103 + 1)) = ji17 := (i64_w _).trans hji17
        by_cases c18 : 0 ≤ (ji17)
        ·
         rw [if_pos c18] at H
         have c18b0 : decide (0 ≤ (ji17)) = true := decide_eq_true c18
         clear c18
         by_cases c19 : (ji17) < (t102.size : Int)
         ·
          rw [if_pos c19] at H
          have c19b0 : decide ((ji17) < (t102.size : Int)) = true := decide_eq_true c19
          clear c19
          replace H := Option.bind_eq_some_iff.mp H
          obtain ⟨t104, A210, H⟩ := H
          replace H : (if 0 ≤ (wrap64 ((ji17) + 1)) then (if (wrap64 ((ji17) + 1)) < (t102.size : Int) then ((strings_IndexByte.f (⟨#[48, 49, 50, 51, 52, 53, 54, 55, 56, 57, 97, 98, 99, 100, 101, 102]⟩ : ByteArray) (bt t102 (wrap64 ((ji17) + 1)))).bind fun t105 => (if t104 ≥ 0 then (some ((Go.bits .or .i64 (wrap64 (t104 * 16)) (Go.bits .and .i64 t105 15)) % 256, decide (t105 ≥ 0), t102, wrap64 ((ji17) + 2))) else (some ((Go.bits .or .i64 (wrap64 (t104 * 16)) (Go.bits .and .i64 t105 15)) % 256, false, t102, wrap64 ((ji17) + 2))))) else (none)) else (none)) = some (r1, r2, r3, r4) := H
          have A21 := qM A210
          clear A210
          obtain ⟨ji22, hji22⟩ : ∃ j_ : Int, (wrap64 ((ji17) + 1)) = j_ := ⟨_, rfl⟩
          replace H : (if 0 ≤ (ji22) then (if (ji22) < (t102.size : Int) then ((strings_IndexByte.f (⟨#[48, 49, 50, 51, 52, 53, 54, 55, 56, 57, 97, 98, 99, 100, 101, 102]⟩ : ByteArray) (bt t102 (ji22))).bind fun t105 => (if t104 ≥ 0 then (some ((Go.bits .or .i64 (wrap64 (t104 * 16)) (Go.bits .and .i64 t105 15)) % 256, decide (t105 ≥ 0), t102, wrap64 ((ji17) + 2))) else (some ((Go.bits .or .i64 (wrap64 (t104 * 16)) (Go.bits .and .i64 t105 15)) % 256, false, t102, wrap64 ((ji17) + 2))))) else (none)) else (none)) = some (r1, r2, r3, r4) := by first | (rw [hji22] at H; exact H) | (simp only [hji22] at H ⊢; exact H)
          (try rw [hji22] at A21)
          have hji22w : (IntKind.i64.wrap ((ji17) + 1)) = ji22 := (i64_w _).trans hji22
          by_cases c23 : 0 ≤ (ji22)
          ·
           rw [if_pos c23] at H
           have c23b0 : decide (0 ≤ (ji22)) = true := decide_eq_true c23
           clear c23
           by_cases c24 : (ji22) < (t102.size : Int)
           ·
            rw [if_pos c24] at H
            have c24b0 : decide ((ji22) < (t102.size : Int)) = true := decide_eq_true c24
            clear c24
            replace H := Option.bind_eq_some_iff.mp H
            obtain ⟨t105, A260, H⟩ := H
            replace H : (if t104 ≥ 0 then (some ((Go.bits .or .i64 (wrap64 (t104 * 16)) (Go.bits .and .i64 t105 15)) % 256, decide (t105 ≥ 0), t102, wrap64 ((ji17) + 2))) else (some ((Go.bits .or .i64 (wrap64 (t104 * 16)) (Go.bits .and .i64 t105 15)) % 256, false, t102, wrap64 ((ji17) + 2)))) = some (r1, r2, r3, r4) := H
            have A26 := qM A260
            clear A260
            by_cases c27 : t104 ≥ 0
            ·
             rw [if_pos c27] at H
             have c27b0 : decide (0 ≤ t104) = true := decide_eq_true c27
             clear c27
             simp only [Option.some.injEq, Prod.mk.injEq] at H
             obtain ⟨rfl, rfl, rfl, rfl⟩ := H
             obtain ⟨HGz28, hgz28⟩ := HI0.out
             have hcz28_0 := cellS51_0 HGz28
             have hcz28_1 := cellS51_1 HGz28
             have hfz28_0 := blk_frozen HGz28 0
             have hfz28_1 := blk_frozen HGz28 1
             clear HGz28 hgz28
             have p20 : 0 ≤ ((ji17) : Int) := qD
             have q20 : (ji17) < (t102.size : Int) := qD
             have hx20 := bt_at t102 (ji17)
             replace p20 := eq_true p20
             replace q20 := eq_true q20
             go_wp2_with (first | (go_at_call 52; (with_reducible refine (strings_IndexByte.calls (⟨#[48, 49, 50, 51, 52, 53, 54, 55, 56, 57, 97, 98, 99, 100, 101, 102]⟩ : ByteArray) (bt t102 (ji17)) t104 _ A21.out).mono ?_); rintro e w' ⟨rfl, ⟨nd, rfl⟩⟩; (try first | exact ⟨rfl, _, World.drewN_drewN _ _ _⟩ | exact ⟨rfl, _, Eq.trans (World.drewN_drewN _ _ _) (congrArg (World.drewN _) (Nat.add_assoc _ _ _))⟩); have p25 : 0 ≤ ((ji22) : Int) := qD; have q25 : (ji22) < (t102.size : Int) := qD; have hx25 := bt_at t102 (ji22); replace p25 := eq_true p25; replace q25 := eq_true q25) | (go_at_call 52; (with_reducible refine (strings_IndexByte.calls (⟨#[48, 49, 50, 51, 52, 53, 54, 55, 56, 57, 97, 98, 99, 100, 101, 102]⟩ : ByteArray) (bt t102 (ji22)) t105 _ A26.out).mono ?_); rintro e w' ⟨rfl, ⟨nd, rfl⟩⟩; (try first | exact ⟨rfl, _, World.drewN_drewN _ _ _⟩ | exact ⟨rfl, _, Eq.trans (World.drewN_drewN _ _ _) (congrArg (World.drewN _) (Nat.add_assoc _ _ _))⟩)))
             repeat (go_quiet (first | (go_at_call 52; (with_reducible refine (strings_IndexByte.calls (⟨#[48, 49, 50, 51, 52, 53, 54, 55, 56, 57, 97, 98, 99, 100, 101, 102]⟩ : ByteArray) (bt t102 (ji17)) t104 _ A21.out).mono ?_); rintro e w' ⟨rfl, ⟨nd, rfl⟩⟩; (try first | exact ⟨rfl, _, World.drewN_drewN _ _ _⟩ | exact ⟨rfl, _, Eq.trans (World.drewN_drewN _ _ _) (congrArg (World.drewN _) (Nat.add_assoc _ _ _))⟩); have p25 : 0 ≤ ((ji22) : Int) := qD; have q25 : (ji22) < (t102.size : Int) := qD; have hx25 := bt_at t102 (ji22); replace p25 := eq_true p25; replace q25 := eq_true q25) | (go_at_call 52; (with_reducible refine (strings_IndexByte.calls (⟨#[48, 49, 50, 51, 52, 53, 54, 55, 56, 57, 97, 98, 99, 100, 101, 102]⟩ : ByteArray) (bt t102 (ji22)) t105 _ A26.out).mono ?_); rintro e w' ⟨rfl, ⟨nd, rfl⟩⟩; (try first | exact ⟨rfl, _, World.drewN_drewN _ _ _⟩ | exact ⟨rfl, _, Eq.trans (World.drewN_drewN _ _ _) (congrArg (World.drewN _) (Nat.add_assoc _ _ _))⟩))); try go_wp2_with (first | (go_at_call 52; (with_reducible refine (strings_IndexByte.calls (⟨#[48, 49, 50, 51, 52, 53, 54, 55, 56, 57, 97, 98, 99, 100, 101, 102]⟩ : ByteArray) (bt t102 (ji17)) t104 _ A21.out).mono ?_); rintro e w' ⟨rfl, ⟨nd, rfl⟩⟩; (try first | exact ⟨rfl, _, World.drewN_drewN _ _ _⟩ | exact ⟨rfl, _, Eq.trans (World.drewN_drewN _ _ _) (congrArg (World.drewN _) (Nat.add_assoc _ _ _))⟩); have p25 : 0 ≤ ((ji22) : Int) := qD; have q25 : (ji22) < (t102.size : Int) := qD; have hx25 := bt_at t102 (ji22); replace p25 := eq_true p25; replace q25 := eq_true q25) | (go_at_call 52; (with_reducible refine (strings_IndexByte.calls (⟨#[48, 49, 50, 51, 52, 53, 54, 55, 56, 57, 97, 98, 99, 100, 101, 102]⟩ : ByteArray) (bt t102 (ji22)) t105 _ A26.out).mono ?_); rintro e w' ⟨rfl, ⟨nd, rfl⟩⟩; (try first | exact ⟨rfl, _, World.drewN_drewN _ _ _⟩ | exact ⟨rfl, _, Eq.trans (World.drewN_drewN _ _ _) (congrArg (World.drewN _) (Nat.add_assoc _ _ _))⟩))))
             go_ret2
             exact ⟨by first | rfl | (simp [errW_none, errW_some] <;> rfl) | (simp only [← hji17, ← hji22]; first | rfl | (simp [errW_none, errW_some] <;> rfl)) | (simp [*, errW_none, errW_some] <;> rfl), by repeat (first | (with_reducible first | exact HI0.out | apply IsS51.alloc | apply IsS51.drewN | apply IsS51.drew | apply IsS51.set_0 | apply IsS51.set_1) | exact HI0.out), by repeat (first | (with_reducible first | exact HB.out | apply below_alloc | apply pw_below_drewN | apply below_drew1 | refine below_set ?_ (IsS51.ge HI0.out)) | exact HB.out), by repeat (first | (with_reducible first | exact HK.out | apply KeepBut.set_ | apply keep_drewN | apply keep_drew | apply keep_alloc) | exact HK.out)⟩
            ·
             rw [if_neg c27] at H
             have c27b0 : decide (0 ≤ t104) = false := decide_eq_false c27
             clear c27
             simp only [Option.some.injEq, Prod.mk.injEq] at H
             obtain ⟨rfl, rfl, rfl, rfl⟩ := H
             obtain ⟨HGz29, hgz29⟩ := HI0.out
             have hcz29_0 := cellS51_0 HGz29
             have hcz29_1 := cellS51_1 HGz29
             have hfz29_0 := blk_frozen HGz29 0
             have hfz29_1 := blk_frozen HGz29 1
             clear HGz29 hgz29
             have p20 : 0 ≤ ((ji17) : Int) := qD
             have q20 : (ji17) < (t102.size : Int) := qD
             have hx20 := bt_at t102 (ji17)
             replace p20 := eq_true p20
             replace q20 := eq_true q20
             go_wp2_with (first | (go_at_call 52; (with_reducible refine (strings_IndexByte.calls (⟨#[48, 49, 50, 51, 52, 53, 54, 55, 56, 57, 97, 98, 99, 100, 101, 102]⟩ : ByteArray) (bt t102 (ji17)) t104 _ A21.out).mono ?_); rintro e w' ⟨rfl, ⟨nd, rfl⟩⟩; (try first | exact ⟨rfl, _, World.drewN_drewN _ _ _⟩ | exact ⟨rfl, _, Eq.trans (World.drewN_drewN _ _ _) (congrArg (World.drewN _) (Nat.add_assoc _ _ _))⟩); have p25 : 0 ≤ ((ji22) : Int) := qD; have q25 : (ji22) < (t102.size : Int) := qD; have hx25 := bt_at t102 (ji22); replace p25 := eq_true p25; replace q25 := eq_true q25) | (go_at_call 52; (with_reducible refine (strings_IndexByte.calls (⟨#[48, 49, 50, 51, 52, 53, 54, 55, 56, 57, 97, 98, 99, 100, 101, 102]⟩ : ByteArray) (bt t102 (ji22)) t105 _ A26.out).mono ?_); rintro e w' ⟨rfl, ⟨nd, rfl⟩⟩; (try first | exact ⟨rfl, _, World.drewN_drewN _ _ _⟩ | exact ⟨rfl, _, Eq.trans (World.drewN_drewN _ _ _) (congrArg (World.drewN _) (Nat.add_assoc _ _ _))⟩)))
             repeat (go_quiet (first | (go_at_call 52; (with_reducible refine (strings_IndexByte.calls (⟨#[48, 49, 50, 51, 52, 53, 54, 55, 56, 57, 97, 98, 99, 100, 101, 102]⟩ : ByteArray) (bt t102 (ji17)) t104 _ A21.out).mono ?_); rintro e w' ⟨rfl, ⟨nd, rfl⟩⟩; (try first | exact ⟨rfl, _, World.drewN_drewN _ _ _⟩ | exact ⟨rfl, _, Eq.trans (World.drewN_drewN _ _ _) (congrArg (World.drewN _) (Nat.add_assoc _ _ _))⟩); have p25 : 0 ≤ ((ji22) : Int) := qD; have q25 : (ji22) < (t102.size : Int) := qD; have hx25 := bt_at t102 (ji22); replace p25 := eq_true p25; replace q25 := eq_true q25) | (go_at_call 52; (with_reducible refine (strings_IndexByte.calls (⟨#[48, 49, 50, 51, 52, 53, 54, 55, 56, 57, 97, 98, 99, 100, 101, 102]⟩ : ByteArray) (bt t102 (ji22)) t105 _ A26.out).mono ?_); rintro e w' ⟨rfl, ⟨nd, rfl⟩⟩; (try first | exact ⟨rfl, _, World.drewN_drewN _ _ _⟩ | exact ⟨rfl, _, Eq.trans (World.drewN_drewN _ _ _) (congrArg (World.drewN _) (Nat.add_assoc _ _ _))⟩))); try go_wp2_with (first | (go_at_call 52; (with_reducible refine (strings_IndexByte.calls (⟨#[48, 49, 50, 51, 52, 53, 54, 55, 56, 57, 97, 98, 99, 100, 101, 102]⟩ : ByteArray) (bt t102 (ji17)) t104 _ A21.out).mono ?_); rintro e w' ⟨rfl, ⟨nd, rfl⟩⟩; (try first | exact ⟨rfl, _, World.drewN_drewN _ _ _⟩ | exact ⟨rfl, _, Eq.trans (World.drewN_drewN _ _ _) (congrArg (World.drewN _) (Nat.add_assoc _ _ _))⟩); have p25 : 0 ≤ ((ji22) : Int) := qD; have q25 : (ji22) < (t102.size : Int) := qD; have hx25 := bt_at t102 (ji22); replace p25 := eq_true p25; replace q25 := eq_true q25) | (go_at_call 52; (with_reducible refine (strings_IndexByte.calls (⟨#[48, 49, 50, 51, 52, 53, 54, 55, 56, 57, 97, 98, 99, 100, 101, 102]⟩ : ByteArray) (bt t102 (ji22)) t105 _ A26.out).mono ?_); rintro e w' ⟨rfl, ⟨nd, rfl⟩⟩; (try first | exact ⟨rfl, _, World.drewN_drewN _ _ _⟩ | exact ⟨rfl, _, Eq.trans (World.drewN_drewN _ _ _) (congrArg (World.drewN _) (Nat.add_assoc _ _ _))⟩))))
             go_ret2
             exact ⟨by first | rfl | (simp [errW_none, errW_some] <;> rfl) | (simp only [← hji17, ← hji22]; first | rfl | (simp [errW_none, errW_some] <;> rfl)) | (simp [*, errW_none, errW_some] <;> rfl), by repeat (first | (with_reducible first | exact HI0.out | apply IsS51.alloc | apply IsS51.drewN | apply IsS51.drew | apply IsS51.set_0 | apply IsS51.set_1) | exact HI0.out), by repeat (first | (with_reducible first | exact HB.out | apply below_alloc | apply pw_below_drewN | apply below_drew1 | refine below_set ?_ (IsS51.ge HI0.out)) | exact HB.out), by repeat (first | (with_reducible first | exact HK.out | apply KeepBut.set_ | apply keep_drewN | apply keep_drew | apply keep_alloc) | exact HK.out)⟩
           ·
            rw [if_neg c24] at H
            exact absurd H (by simp)
          ·
           rw [if_neg c23] at H
           exact absurd H (by simp)
         ·
          rw [if_neg c19] at H
          exact absurd H (by simp)
        ·
         rw [if_neg c18] at H
         exact absurd H (by simp)
      ·
       rw [if_neg c14] at H
       have c14b0 : (t101 == 120) = false := beq_eq_false_iff_ne.mpr c14
       have c14b1 : (t101 != 120) = true := bne_iff_ne.mpr c14
       simp only [Option.some.injEq, Prod.mk.injEq] at H
       obtain ⟨rfl, rfl, rfl, rfl⟩ := H
       go_wp2
       repeat (go_quiet (fail); try go_wp2)
       go_ret2
       exact ⟨by first | rfl | (simp [errW_none, errW_some] <;> rfl) | (simp [*, errW_none, errW_some] <;> rfl), by repeat (first | (with_reducible first | exact HI0.out | apply IsS51.alloc | apply IsS51.drewN | apply IsS51.drew | apply IsS51.set_0 | apply IsS51.set_1) | exact HI0.out), by repeat (first | (with_reducible first | exact HB.out | apply below_alloc | apply pw_below_drewN | apply below_drew1 | refine below_set ?_ (IsS51.ge HI0.out)) | exact HB.out), by repeat (first | (with_reducible first | exact HK.out | apply KeepBut.set_ | apply keep_drewN | apply keep_drew | apply keep_alloc) | exact HK.out)⟩

end Go.Proofs.YtejidddjkngoiaaDoor.PGram
