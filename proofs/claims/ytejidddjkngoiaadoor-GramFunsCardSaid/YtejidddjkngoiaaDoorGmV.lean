/- gram: comparisons. gram: a map of two signs, made and ranged over. gram: all levels. -/
import Derived.Test.YtejidddjkngoiaaDoorGmR
import Derived.Maps.RangeWalk
import Derived.Maps.OwnOps
import Derived.Sort.MapsRangeIn
namespace Go.Proofs.YtejidddjkngoiaaDoor
open Go.RowKit
set_option linter.all false

set_option maxHeartbeats 4000000
set_option maxRecDepth 100000

theorem run_store_fn {P : Program} (a : Addr) (fn : Fn) (first cap : Array Value) (m : Mode) (w : World) : (store a (.func fn first cap) m).run P w = stored P w a (.func fn first cap) m := run_store P w a _ m rfl
abbrev cmpW (w : World) (g : Nat) : World := ((((((w.alloc (.cells #[.pointer (some ⟨g, 0, none⟩)] 57)).alloc (.cells zT 28)).alloc (.cells #[.string ⟨#[43]⟩, .string ⟨#[45]⟩] 9)).alloc (.cells #[.string ⟨#[42]⟩, .string ⟨#[47]⟩, .string ⟨#[114, 101, 109]⟩] 9)).alloc (.cells #[.slice (some ⟨w.heap.size + 1 + 1, 0, none⟩) 2 2, .slice (some ⟨w.heap.size + 1 + 1 + 1, 0, none⟩) 3 3] 95)).alloc (.cells #[.func (.func 63) #[] #[.pointer (some ⟨w.heap.size, 0, none⟩), .pointer (some ⟨w.heap.size + 1 + 1 + 1 + 1 + 1, 0, none⟩), .pointer (some ⟨w.heap.size + 1 + 1 + 1 + 1, 0, none⟩)]] 96))
theorem heap_alloc_at (W : World) (o : Obj) (k : Nat) (hk : k < W.heap.size) : (W.alloc o).heap[k]? = W.heap[k]? := (Only.alloc W o []).block k hk (by simp)
theorem heap_alloc_is (W : World) (cs : Array Value) (t : TypeId) (k : Nat) (hk : k = W.heap.size) : (W.alloc (.cells cs t)).heap[k]? = some (.cells cs t (0, 0)) := by rw [hk]; exact heap_alloc_new W _
structure CmpIn (w w1 : World) (g : Nat) : Prop where
  only : Only w w1 []
  size : w1.heap.size = w.heap.size + 6
  res : w1.heap[w.heap.size + 1]? = some (.cells zT 28 (0, 0))
  j : JAt w1 g w.heap.size (w.heap.size + 1 + 1 + 1 + 1 + 1) (w.heap.size + 1 + 1 + 1 + 1) (w.heap.size + 1 + 1) (w.heap.size + 1 + 1 + 1)
theorem cmpIn (w : World) (g : Nat) (hg : g < w.heap.size) : CmpIn w (cmpW w g) g := by
  refine ⟨(((((Only.alloc w _ []).allocs _).allocs _).allocs _).allocs _).allocs _, by simp, ?_, ⟨?_, ?_, ?_, ?_, ?_, by omega, by omega, by omega, by omega, by omega⟩⟩
  · rw [heap_alloc_at _ _ _ (by simp), heap_alloc_at _ _ _ (by simp), heap_alloc_at _ _ _ (by simp), heap_alloc_at _ _ _ (by simp)]
    exact heap_alloc_is _ _ _ _ (by simp)
  · show (cmpW w g).heap[w.heap.size]? = _
    rw [heap_alloc_at _ _ _ (by simp <;> omega), heap_alloc_at _ _ _ (by simp <;> omega), heap_alloc_at _ _ _ (by simp <;> omega), heap_alloc_at _ _ _ (by simp <;> omega), heap_alloc_at _ _ _ (by simp)]
    exact heap_alloc_is _ _ _ _ (by simp)
  · exact heap_alloc_is _ _ _ _ (by simp)
  · rw [heap_alloc_at _ _ _ (by simp)]
    exact heap_alloc_is _ _ _ _ (by simp)
  · rw [heap_alloc_at _ _ _ (by simp <;> omega), heap_alloc_at _ _ _ (by simp <;> omega), heap_alloc_at _ _ _ (by simp)]
    exact heap_alloc_is _ _ _ _ (by simp)
  · rw [heap_alloc_at _ _ _ (by simp <;> omega), heap_alloc_at _ _ _ (by simp)]
    exact heap_alloc_is _ _ _ _ (by simp)
/-- The first sign of a comparison that stands there. -/
theorem one_comps {g : Nat} {A : Option Addr} {c : Nat} {T : List GT} {n : Nat} (W : World) (i b : Nat) (h : PAt W g A c T i n) (hb : W.heap[b]? = some (.cells #[.string ⟨#[61, 61]⟩, .string ⟨#[47, 61]⟩, .string ⟨#[60]⟩, .string ⟨#[62]⟩, .string ⟨#[61, 60]⟩, .string ⟨#[62, 61]⟩] 9 (0, 0))) :
    Calls Tryd.prog 65 #[.pointer (some ⟨g, 0, none⟩), .slice (some ⟨b, 0, none⟩) 6 6] W fun e w' => e = .returned (.string ((oneS T i sComps).getD ⟨#[]⟩)) ∧ Dr W w' := by
  refine one_c W g A c T i n h (fun _ => True) (some ⟨b, 0, none⟩) 6 sComps (fun k s hs => ?_) (by decide)
  refine ⟨b, 0, rfl, trivial, ?_⟩
  rw [Lib.cell_of_heap hb]
  have h2 : k = 0 ∨ k = 1 ∨ k = 2 ∨ k = 3 ∨ k = 4 ∨ k = 5 := by have := (List.getElem?_eq_some_iff.1 hs).1; simp [sComps] at this; omega
  rcases h2 with rfl | rfl | rfl | rfl | rfl | rfl <;> (simp [sComps] at hs; subst hs; rfl)
theorem comp_ne (s : ByteArray) (h : s ∈ sComps) : s.toList.isEmpty = false := by
  simp only [sComps, List.mem_cons, List.not_mem_nil, or_false] at h
  rcases h with rfl | rfl | rfl | rfl | rfl | rfl <;> kernel_rfl
theorem cmp_c {g : Nat} {A : Option Addr} {c : Nat} {T : List GT} {n : Nat} (hun : ExOK 64 g A c T n (unaryS T (loS T n))) : ExOK 54 g A c T n (cmpS T (loS T n)) := by
  intro w i h
  have hgl := h.g_lt
  have HP := Aside0.mk h
  have hlen := h.len
  have hst := @run_store_fn Tryd.prog
  have hci := cmpIn w g hgl
  have hsu : JoinOK 0 g w.heap.size (w.heap.size + 1 + 1 + 1 + 1 + 1) (w.heap.size + 1 + 1 + 1 + 1) (w.heap.size + 1 + 1) (w.heap.size + 1 + 1 + 1) A c T n (sumS T (loS T n)) := join_0 (join_1 (join_2 hun) (unaryS_on (loS_on T n))) (prodS_on (loS_on T n))
  have HSU := Aside0.mk hsu
  go_enter Tryd.func54, Tryd.ntmps54
  go_upto_region 4 with fail
  obtain ⟨w1, hw1⟩ : ∃ w1, w1 = cmpW w g := ⟨_, rfl⟩
  rw [← hw1] at hci
  rw [show ((((((w.alloc (.cells #[.pointer (some ⟨g, 0, none⟩)] 57)).alloc (.cells zT 28)).alloc (.cells #[.string ⟨#[43]⟩, .string ⟨#[45]⟩] 9)).alloc (.cells #[.string ⟨#[42]⟩, .string ⟨#[47]⟩, .string ⟨#[114, 101, 109]⟩] 9)).alloc (.cells #[.slice (some ⟨w.heap.size + 1 + 1, 0, none⟩) 2 2, .slice (some ⟨w.heap.size + 1 + 1 + 1, 0, none⟩) 3 3] 95)).alloc (.cells #[.func (.func 63) #[] #[.pointer (some ⟨w.heap.size, 0, none⟩), .pointer (some ⟨w.heap.size + 1 + 1 + 1 + 1 + 1, 0, none⟩), .pointer (some ⟨w.heap.size + 1 + 1 + 1 + 1, 0, none⟩)]] 96)) = w1 from hw1.symm]
  clear hw1 hst
  have hp1 := h.keep hci.only
  have hj1 : w1.cell? ⟨w.heap.size + 1 + 1 + 1 + 1 + 1, 0, none⟩ = some (.func (.func 63) #[] #[.pointer (some ⟨w.heap.size, 0, none⟩), .pointer (some ⟨w.heap.size + 1 + 1 + 1 + 1 + 1, 0, none⟩), .pointer (some ⟨w.heap.size + 1 + 1 + 1 + 1, 0, none⟩)]) := by rw [Lib.cell_of_heap hci.j.self]; rfl
  have hz1 := hci.size
  have hx := hsu w1 i hp1 hci.j
  have HCI := Aside0.mk hci
  have HP1 := Aside0.mk hp1
  have hres : ∀ W, Only w1 W [g] → W.heap[w.heap.size + 1]? = some (.cells zT 28 (0, 0)) := fun W hW => (hW.block _ (by omega) (by simp; omega)).trans hci.res
  have hcell : ∀ W, Only w1 W [g] → W.cell? ⟨w.heap.size, 0, none⟩ = some (.pointer (some ⟨g, 0, none⟩)) ∧ W.cell? ⟨w.heap.size + 1 + 1 + 1 + 1 + 1, 0, none⟩ = some (.func (.func 63) #[] #[.pointer (some ⟨w.heap.size, 0, none⟩), .pointer (some ⟨w.heap.size + 1 + 1 + 1 + 1 + 1, 0, none⟩), .pointer (some ⟨w.heap.size + 1 + 1 + 1 + 1, 0, none⟩)]) := fun W hW =>
    ⟨(hci.j.keep hW).box.cell.1, by rw [Lib.cell_of_heap (hci.j.keep hW).self]; rfl⟩
  have HRES := Aside0.mk hres
  have HCELL := Aside0.mk hcell
  clear hci hp1 hsu hres hcell hun h
  cases hr : sumS T (loS T n) i with
  | bad k code =>
    have e0 : cmpS T (loS T n) i = .bad k code := by simp [cmpS, hr, PR.bind]
    rw [hr] at hx
    have HX := Aside0.mk hx
    have HE0 := Aside0.mk e0
    clear hx hr e0
    go_wp2_with (go_at_call 63; refine HX.out.mono ?_; rintro e w2 ⟨rfl, o2⟩)
    refine ⟨rfl, ?_⟩
    rw [HE0.out]
    exact ⟨rfl, (HCI.out.only.weaken (by simp)).trans o2 (fun _ h => .inl h)⟩
  | ok a j =>
    have hj0 := sumS_on (loS_on T n) i a j hr
    have e0 : cmpS T (loS T n) i = match oneS T j sComps with
      | none => .ok a j
      | some s => (sumS T (loS T n) (j + 1)).bind fun b k => .ok (.node 8 s 0 [] [a, b]) k := by simp only [cmpS, hr, PR.bind]; rfl
    rw [hr] at hx
    have HX := Aside0.mk hx
    have hon := fun W b hW hb => one_comps (g := g) (A := A) (c := c) (T := T) (n := n) W j b hW hb
    cases ho : oneS T j sComps with
    | none =>
      rw [ho] at e0
      simp only [ho, Option.getD_none] at hon
      have HON := Aside0.mk hon
      have HE0 := Aside0.mk e0
      clear hx hr e0 hon ho
      go_wp2_with (first
        | (go_at_call 63; refine HX.out.mono ?_; rintro e w2 ⟨u2, rfl, htv2, hp2, o2⟩; obtain ⟨kd2, s2, n2, A32, n32, c32, A42, n42, c42, rfl⟩ := htv2.five; have HP2 := Aside0.mk hp2; have HTV2 := Aside0.mk htv2; have HO2 := Aside0.mk o2; have hz2 : w1.heap.size ≤ w2.heap.size := o2.size; obtain ⟨x0, _⟩ := HCELL.out w2 o2; have hbl : w.heap.size < w2.heap.size := (by omega); clear htv2 hp2 o2)
        | (go_at_call 65; refine (HON.out _ _ (HP2.out.keep (by (repeat (first | (with_reducible assumption) | (with_reducible exact Only.refl _ _) | (with_reducible refine Only.allocs ?_ _) | (with_reducible refine Only.drews ?_))))) (heap_alloc_is _ _ _ _ (by simp))).mono ?_; rintro e w5 ⟨rfl, d5⟩; have o25 : Only w2 w5 [] := Only.trans (by (repeat (first | (with_reducible assumption) | (with_reducible exact Only.refl _ _) | (with_reducible refine Only.allocs ?_ _) | (with_reducible refine Only.drews ?_)))) (d5.only []) (by simp); have hl5 : w5.heap[w2.heap.size]? = some (.cells #[.int .i64 kd2, .string s2, .int .i64 n2, .slice A32 n32 c32, .slice A42 n42 c42] 28 (0, 0)) := (((d5.only []).block _ (by simp; omega) (by simp)).trans ((heap_alloc_at _ _ _ (by simp)).trans (heap_alloc_is _ _ _ _ rfl))); obtain ⟨v0, v1, v2, v3, v4, _⟩ := blk5 hl5; have hb5 := HRES.out w5 (HO2.out.trans o25 (by simp)); obtain ⟨y0, y1, y2, y3, y4, yf0, yf1, yf2, yf3, yf4⟩ := blk5 hb5; have hrl : w.heap.size + 1 < w5.heap.size := (Array.getElem?_eq_some_iff.1 hb5).1; have hll : w2.heap.size < w5.heap.size := (Array.getElem?_eq_some_iff.1 hl5).1; have HB5 := Aside0.mk hb5; have HO25 := Aside0.mk o25; clear d5 o25 hl5 hb5))
      obtain ⟨k1, k2, k3, k4⟩ := fin_at HP.out (HP2.out.keep HO25.out) (((HCI.out.only.weaken (by simp)).trans HO2.out (fun _ h => .inl h)).trans HO25.out (by simp)) (.int .i64 kd2) (.string s2) (.int .i64 n2) (.slice A32 n32 c32) (.slice A42 n42 c42) HB5.out (TV_move (Q := fun k => w.heap.size + 2 ≤ k) (fun k hk hP => ⟨HO25.out.block k hk (by simp), by omega⟩) a _ HTV2.out) (Nat.le_succ _) (Nat.lt_succ_self _) _ (Only.refl _ [])
      obtain ⟨f0, f1, f2, f3, f4, _⟩ := blk5 k4
      refine bodyPost_ret (v := .agg #[.int .i64 kd2, .string s2, .int .i64 n2, .slice A32 n32 c32, .slice A42 n42 c42]) (by simp [results, Tryd.results54, go_sem, f0, f1, f2, f3, f4]) rfl ?_
      rw [HE0.out]
      exact ⟨_, rfl, k1, k2, k3⟩
    | some s =>
      rw [ho] at e0
      simp only [ho, Option.getD_some] at hon
      have hne := comp_ne s (List.mem_of_find?_eq_some ho)
      have hat : isAt T j s = true := List.find?_some ho
      have hlt := isAt_lt hat
      have HON := Aside0.mk hon
      clear hr hon ho hat hx
      go_upto_region 8 with (first
        | (go_at_call 63; refine HX.out.mono ?_; rintro e w2 ⟨u2, rfl, htv2, hp2, o2⟩; obtain ⟨kd2, s2, n2, A32, n32, c32, A42, n42, c42, rfl⟩ := htv2.five; have HP2 := Aside0.mk hp2; have HTV2 := Aside0.mk htv2; have HO2 := Aside0.mk o2; have hz2 : w1.heap.size ≤ w2.heap.size := o2.size; obtain ⟨x0, _⟩ := HCELL.out w2 o2; have hbl : w.heap.size < w2.heap.size := (by omega); clear htv2 hp2 o2)
        | (go_at_call 65; refine (HON.out _ _ (HP2.out.keep (by (repeat (first | (with_reducible assumption) | (with_reducible exact Only.refl _ _) | (with_reducible refine Only.allocs ?_ _) | (with_reducible refine Only.drews ?_))))) (heap_alloc_is _ _ _ _ (by simp))).mono ?_; rintro e w5 ⟨rfl, d5⟩; have o25 : Only w2 w5 [] := Only.trans (by (repeat (first | (with_reducible assumption) | (with_reducible exact Only.refl _ _) | (with_reducible refine Only.allocs ?_ _) | (with_reducible refine Only.drews ?_)))) (d5.only []) (by simp); have hl5 : w5.heap[w2.heap.size]? = some (.cells #[.int .i64 kd2, .string s2, .int .i64 n2, .slice A32 n32 c32, .slice A42 n42 c42] 28 (0, 0)) := (((d5.only []).block _ (by simp; omega) (by simp)).trans ((heap_alloc_at _ _ _ (by simp)).trans (heap_alloc_is _ _ _ _ rfl))); have hll : w2.heap.size < w5.heap.size := (Array.getElem?_eq_some_iff.1 hl5).1; have HL5 := Aside0.mk hl5; have HO25 := Aside0.mk o25; clear d5 o25 hl5))
      clear x0
      have o15 : Only w1 w5 [g] := HO2.out.trans HO25.out (by simp)
      have o05 : Only w w5 [g] := (HCI.out.only.weaken (by simp)).trans o15 (fun _ h => .inl h)
      have hp5 := HP2.out.keep HO25.out
      obtain ⟨p0, p1, p2, pf0, pf1, pf2⟩ := blk3 hp5.cell
      obtain ⟨x0, _⟩ := HCELL.out w5 o15
      have hg5 := hp5.g_lt
      go_wp2_with fail
      obtain ⟨w6, hw6⟩ : ∃ w6, w6 = w5.setCell ⟨g, 1, none⟩ (.int .i64 ((j : Int) + 1)) := ⟨_, rfl⟩
      rw [← hw6]
      obtain ⟨hp6, o56⟩ := hp5.step (j := j + 1) hlt
      rw [show (((j + 1 : Nat) : Int)) = (j : Int) + 1 by omega, ← hw6] at hp6 o56
      have o16 : Only w1 w6 [g] := o15.trans o56 (fun _ h => .inl h)
      have o06 : Only w w6 [g] := o05.trans o56 (fun _ h => .inl h)
      have hl6 := (o56.block _ hll (by simp; omega)).trans HL5.out
      have hb6 := HRES.out w6 o16
      have HO16 := Aside0.mk o16
      have HO06 := Aside0.mk o06
      have HP6 := Aside0.mk hp6
      have HL6 := Aside0.mk hl6
      have HB6 := Aside0.mk hb6
      have hl6z : w2.heap.size < w6.heap.size := (Array.getElem?_eq_some_iff.1 hl6).1
      have hall : ∀ W, Only w6 W [g, w.heap.size + 1] → W.cell? ⟨w2.heap.size, 0, none⟩ = some (.int .i64 kd2) ∧ W.cell? ⟨w2.heap.size, 1, none⟩ = some (.string s2) ∧ W.cell? ⟨w2.heap.size, 2, none⟩ = some (.int .i64 n2) ∧ W.cell? ⟨w2.heap.size, 3, none⟩ = some (.slice A32 n32 c32) ∧ W.cell? ⟨w2.heap.size, 4, none⟩ = some (.slice A42 n42 c42) ∧ W.cell? ⟨w.heap.size + 1 + 1 + 1 + 1 + 1, 0, none⟩ = some (.func (.func 63) #[] #[.pointer (some ⟨w.heap.size, 0, none⟩), .pointer (some ⟨w.heap.size + 1 + 1 + 1 + 1 + 1, 0, none⟩), .pointer (some ⟨w.heap.size + 1 + 1 + 1 + 1, 0, none⟩)]) := fun W hW => by
        obtain ⟨q0, q1, q2, q3, q4, _⟩ := blk5 ((hW.block _ hl6z (by simp; omega)).trans hl6)
        have hs := (HCI.out.j.keep o16).self
        have hs2 := (hW.block _ (Array.getElem?_eq_some_iff.1 hs).1 (by simp; omega)).trans hs
        exact ⟨q0, q1, q2, q3, q4, by rw [Lib.cell_of_heap hs2]; rfl⟩
      have HALL := Aside0.mk hall
      have hx6 := HSU.out w6 (j + 1) hp6 (HCI.out.j.keep o16)
      have hx := fun W hW => HSU.out W (j + 1) (hp6.keep hW) ((HCI.out.j.keep o16).keep (hW.weaken (by simp)))
      cases hr : sumS T (loS T n) (j + 1) with
      | bad k code =>
        have e1 : cmpS T (loS T n) i = .bad k code := by rw [e0]; simp only [hr, PR.bind]
        simp only [hr] at hx
        have HX2 := Aside0.mk hx
        have HE1 := Aside0.mk e1
        obtain ⟨q0, q1, q2, q3, q4, q5⟩ := hall w6 (Only.refl _ _)
        clear hx hr e1 e0 hall hp6 o16 o06 hl6 hb6 hw6 o15 o05 hp5 o56 p0 p1 p2 pf0 pf1 pf2 x0 hx6
        refine wp_region_any (by kernel_rfl) ?_
        (try (change wpAny _ _ _ _ _ _ _ (World.drew _)))
        refine wpAny_take (i := 0) (v := ?_) rfl (by kernel_rfl) (by kernel_rfl) (by kernel_rfl) (fun _ _ _ h => h) (Or.inl ⟨by rfl, ?_⟩) ?_; rotate_left; (focus (intro _wq; go_simp; (first | done | (with_reducible rfl))))
        refine wpAny_ready (rs := [1, 2]) (by kernel_rfl) (by simp) ?_
        refine AllReady.cons rfl (fun K hK => ?_) ?_
        · go_simp
          refine hK _ _ ?_
          refine wpAny_ready (rs := [2]) (by kernel_rfl) (by simp) ?_
          refine AllReady.cons rfl (fun K2 hK2 => ?_) AllReady.nil
          go_simp
          refine hK2 _ _ ?_
          refine wpAny_ready (rs := [3]) (by kernel_rfl) (by simp) ?_
          refine AllReady.cons rfl (fun K3 hK3 => ?_) AllReady.nil
          go_simp
          (refine (HX2.out _ (by (repeat (first | (with_reducible assumption) | (with_reducible exact Only.refl _ _) | (with_reducible refine Only.allocs ?_ _) | (with_reducible refine Only.drews ?_))))).mono ?_; rintro e w8 ⟨rfl, o8⟩; refine ⟨rfl, ?_⟩; rw [HE1.out]; exact ⟨rfl, HO06.out.trans (Only.trans (by (repeat (first | (with_reducible assumption) | (with_reducible exact Only.refl _ _) | (with_reducible refine Only.allocs ?_ _) | (with_reducible refine Only.drews ?_)))) o8 (fun _ h => .inl h)) (fun _ h => .inl h)⟩)
        · refine AllReady.cons rfl (fun K hK => ?_) AllReady.nil
          go_simp
          refine hK _ _ ?_
          refine wpAny_ready (rs := [1, 3]) (by kernel_rfl) (by simp) ?_
          refine AllReady.cons rfl (fun K hK => ?_) ?_
          · go_simp
            refine hK _ _ ?_
            refine wpAny_ready (rs := [3]) (by kernel_rfl) (by simp) ?_
            refine AllReady.cons rfl (fun K2 hK2 => ?_) AllReady.nil
            go_simp
            (refine (HX2.out _ (by (repeat (first | (with_reducible assumption) | (with_reducible exact Only.refl _ _) | (with_reducible refine Only.allocs ?_ _) | (with_reducible refine Only.drews ?_))))).mono ?_; rintro e w8 ⟨rfl, o8⟩; refine ⟨rfl, ?_⟩; rw [HE1.out]; exact ⟨rfl, HO06.out.trans (Only.trans (by (repeat (first | (with_reducible assumption) | (with_reducible exact Only.refl _ _) | (with_reducible refine Only.allocs ?_ _) | (with_reducible refine Only.drews ?_)))) o8 (fun _ h => .inl h)) (fun _ h => .inl h)⟩)
          · refine AllReady.cons rfl (fun K hK => ?_) AllReady.nil
            go_simp
            (refine (HX2.out _ (by (repeat (first | (with_reducible assumption) | (with_reducible exact Only.refl _ _) | (with_reducible refine Only.allocs ?_ _) | (with_reducible refine Only.drews ?_))))).mono ?_; rintro e w8 ⟨rfl, o8⟩; refine ⟨rfl, ?_⟩; rw [HE1.out]; exact ⟨rfl, HO06.out.trans (Only.trans (by (repeat (first | (with_reducible assumption) | (with_reducible exact Only.refl _ _) | (with_reducible refine Only.allocs ?_ _) | (with_reducible refine Only.drews ?_)))) o8 (fun _ h => .inl h)) (fun _ h => .inl h)⟩)
      | ok b k =>
        have hk := sumS_on (loS_on T n) (j + 1) b k hr
        have e1 : cmpS T (loS T n) i = .ok (.node 8 s 0 [] [a, b]) k := by rw [e0]; simp only [hr, PR.bind]
        simp only [hr] at hx
        have HX2 := Aside0.mk hx
        have HE1 := Aside0.mk e1
        have ht6 := TV_move (w' := w6) (Q := fun k => w.heap.size + 2 ≤ k) (fun k hk hP => ⟨((HO25.out.weaken (by simp)).trans o56 (ks := [g]) (ks2 := [g]) (fun _ h => .inl h)).block k hk (by simp; omega), by omega⟩) a _ HTV2.out
        have HT6 := Aside0.mk ht6
        clear hx hr e1 e0 hall hp6 o16 o06 hl6 hb6 hw6 o15 o05 hp5 o56 p0 p1 p2 pf0 pf1 pf2 x0 hx6 ht6
        go_region_held3 (fun W => W.cell? ⟨w2.heap.size, 0, none⟩ = some (.int .i64 kd2) ∧ W.cell? ⟨w2.heap.size, 1, none⟩ = some (.string s2) ∧ W.cell? ⟨w2.heap.size, 2, none⟩ = some (.int .i64 n2) ∧ W.cell? ⟨w2.heap.size, 3, none⟩ = some (.slice A32 n32 c32) ∧ W.cell? ⟨w2.heap.size, 4, none⟩ = some (.slice A42 n42 c42) ∧ W.cell? ⟨w.heap.size + 1 + 1 + 1 + 1 + 1, 0, none⟩ = some (.func (.func 63) #[] #[.pointer (some ⟨w.heap.size, 0, none⟩), .pointer (some ⟨w.heap.size + 1 + 1 + 1 + 1 + 1, 0, none⟩), .pointer (some ⟨w.heap.size + 1 + 1 + 1 + 1, 0, none⟩)]))
          (first | exact HALL.out _ (by (repeat (first | (with_reducible assumption) | (with_reducible exact Only.refl _ _) | (with_reducible refine Only.allocs ?_ _) | (with_reducible refine Only.drews ?_) | (with_reducible refine Only.setCells ?_ _ (by simp) _)))))
          (first
            | (go_at_call 63; refine (HX2.out _ (by (repeat (first | (with_reducible assumption) | (with_reducible exact Only.refl _ _) | (with_reducible refine Only.allocs ?_ _) | (with_reducible refine Only.drews ?_))))).mono ?_; rintro e w7 ⟨u7, rfl, htv7, hp7, o7⟩; obtain ⟨kd7, s7, n7, A37, n37, c37, A47, n47, c47, rfl⟩ := htv7.five; have o67 : Only w6 w7 [g] := Only.trans (by (repeat (first | (with_reducible assumption) | (with_reducible exact Only.refl _ _) | (with_reducible refine Only.allocs ?_ _) | (with_reducible refine Only.drews ?_)))) o7 (fun _ h => .inl h); have q67 : Only w6 w7 [g, w.heap.size + 1] := o67.weaken (by simp); have HP7 := Aside0.mk hp7; have HO67 := Aside0.mk o67; have HPS := Aside0.mk (pair_step2 (P := fun k => w.heap.size + 2 ≤ k) HT6.out o67 (by simp; omega) (TV_move (Q := fun k => w.heap.size + 2 ≤ k) (fun k _ hP => ⟨rfl, by have hP' : w6.heap.size ≤ k := hP; omega⟩) b _ htv7) (fun k hk => by have := o67.size; omega) 8 s); clear htv7 hp7 o7 o67)
            | (go_at_call 23; refine HPS.out.mono ?_; rintro e w8 ⟨u8, rfl, htv8, o8⟩; obtain ⟨kd8, s8, n8, A38, n38, c38, A48, n48, c48, rfl⟩ := htv8.five; have q68 : Only w6 w8 [g, w.heap.size + 1] := q67.trans o8 (by simp); have hb8 := (o8.block _ (by have := HO67.out.size; omega) (by simp)).trans ((HO67.out.block _ (by omega) (by simp; omega)).trans HB6.out); obtain ⟨y0, y1, y2, y3, y4, yf0, yf1, yf2, yf3, yf4⟩ := blk5 hb8; have hrl : w.heap.size + 1 < w8.heap.size := (Array.getElem?_eq_some_iff.1 hb8).1; have HTV8 := Aside0.mk htv8; have HB8 := Aside0.mk hb8; have HO8 := Aside0.mk o8; clear htv8 hb8 o8))
        go_wp2_with fail
        obtain ⟨k1, k2, k3, k4⟩ := fin_at HP.out (HP7.out.keep HO8.out) ((HO06.out.trans HO67.out (fun _ h => .inl h)).trans HO8.out (by simp)) (.int .i64 kd8) (.string s8) (.int .i64 n8) (.slice A38 n38 c38) (.slice A48 n48 c48) HB8.out HTV8.out (Nat.le_succ _) (Nat.lt_succ_self _) _ (by (repeat (first | (with_reducible assumption) | (with_reducible exact Only.refl _ _) | (with_reducible refine Only.allocs ?_ _) | (with_reducible refine Only.drews ?_))))
        obtain ⟨f0, f1, f2, f3, f4, _⟩ := blk5 k4
        refine bodyPost_ret (v := .agg #[.int .i64 kd8, .string s8, .int .i64 n8, .slice A38 n38 c38, .slice A48 n48 c48]) (by simp [results, Tryd.results54, go_sem, f0, f1, f2, f3, f4]) rfl ?_
        rw [HE1.out]
        exact ⟨_, rfl, k1, k2, k3⟩
open Go.Maps
set_option maxHeartbeats 4000000
set_option maxRecDepth 100000

abbrev DM : DataW Unit := ((DataW.map []).put (.string [61]) (.lit (.int .i64 9))).put (.string [33]) (.lit (.int .i64 10))
theorem dm_flat : DM = .map [(.string [33], .lit (.int .i64 10)), (.string [61], .lit (.int .i64 9))] := by rfl
theorem dm_has : Maps.has DM (.string [61]) = true ∧ Maps.has DM (.string [33]) = true := ⟨by rfl, by rfl⟩
theorem dm_key {x : List UInt8} {y : DataW Unit} (h : ∀ zd, DM.atKey (.string x) zd = y) : (x = [61] ∧ y = .lit (.int .i64 9)) ∨ (x = [33] ∧ y = .lit (.int .i64 10)) := by
  rw [dm_flat] at h
  by_cases h1 : x = [61]
  · exact .inl ⟨h1, by rw [← h .nil, h1]; rfl⟩
  by_cases h2 : x = [33]
  · exact .inr ⟨h2, by rw [← h .nil, h2]; rfl⟩
  exfalso
  have e1 : ([61] == x) = false := by simp; exact fun e => h1 e.symm
  have e2 : ([33] == x) = false := by simp; exact fun e => h2 e.symm
  have k1 : ∀ zd, (DataW.map (H := Unit) [(.string [33], .lit (.int .i64 10)), (.string [61], .lit (.int .i64 9))]).atKey (.string x) zd = zd := fun zd => by
    simp only [DataW.atKey, List.find?, Lit.sameKey, e1, e2]
  have := (h .nil).trans (h (.lit (.bool true))).symm
  rw [k1, k1] at this
  cases this
theorem law9 : Keyed Tryd.prog 9 := string_keyed Tryd.underlying9
theorem invK9 (key : Value) (kl : Lit) (h : keyOf Tryd.prog 9 key = some kl) : ∃ x : ByteArray, key = .string x := Maps.keyOf_string_inv Tryd.underlying9 h
theorem invV3 (v : Value) (y : DataW Unit × List MemPlace) (h : plainElem Tryd.prog 3 v = some y) : ∃ c : Int, v = .int .i64 c := by
  obtain ⟨a, h1, _⟩ := plainElem_int_inv Tryd.underlying3 h
  exact ⟨a, h1⟩
theorem ba_of {x : ByteArray} {l : List UInt8} (h : x.data.toList = l) : x = ⟨l.toArray⟩ := by
  subst h
  simp
/-- What came by a step. -/
theorem step_key {x : ByteArray} {c : Int} {kl : Lit} {y : DataW Unit × List MemPlace} (hk : keyOf Tryd.prog 9 (.string x) = some kl) (hv : plainElem Tryd.prog 3 (.int .i64 c) = some y) (hat : ∀ zd, DM.atKey kl zd = y.1) : (x = ⟨#[61]⟩ ∧ kl = .string [61] ∧ c = 9) ∨ (x = ⟨#[33]⟩ ∧ kl = .string [33] ∧ c = 10) := by
  obtain ⟨c', e1, e2, _⟩ := plainElem_int_inv Tryd.underlying3 hv
  cases e1
  have hkl : kl = .string x.data.toList := by
    simp [keyOf, Tryd.underlying9, mapKey] at hk
    exact hk.2.symm
  subst hkl
  rcases dm_key hat with ⟨h1, h2⟩ | ⟨h1, h2⟩
  · rw [e2] at h2
    refine .inl ⟨?_, by rw [h1], by simpa using h2⟩
    exact ba_of h1
  · rw [e2] at h2
    refine .inr ⟨?_, by rw [h1], by simpa using h2⟩
    exact ba_of h1
theorem wpList_insert_own {H : Type} {P : Program} (w : World) {ops : Array Oper} {rest : List Oper} {o : Oper} {a : Act} {Q : Exit → Act → World → Prop}
    (hg : o.guard = none) (m x v : Operand) (t : TypeId) (hop : o.op = Op.insert t m x v)
    (k e : TypeId) (K : Keyed P k) (ht : P.underlying t = some (.map k e)) (R : Value → Option (DataW H × List MemPlace)) (b n : Nat) (D : DataW H)
    (hm : a.eval m = .map (some b)) (hown : w.ownsMap P k R b n D) (hn : n < maxLen) (key val : Value) (kl : Lit) (hx : a.eval x = key) (hv : a.eval v = val) (hkey : keyOf P k key = some kl)
    (d : DataW H) (ps : List MemPlace) (hval : R val = some (d, ps))
    (hK : ∀ w', w'.ownsMap P k R b (n + 1) (D.put kl d) → w.grownBy w' (some b) → wpList P ops Q rest (a.put o.dst undef) w') :
    wpList P ops Q (o :: rest) a w := by
  refine wpList_plain hg fun K' hK' => ?_
  obtain ⟨w', hrun, r1, r2⟩ := hown.update K ht hn hkey hval
  unfold Oper.wp
  simp [execOp, hop, hm, hx, hv, hrun, Result.andThen]
  exact hK' _ _ (hK w' r1 r2)
/-- The loop over the two signs: not met yet, or not there. -/
structure ExS (wr w : World) (g : Nat) (A : Option Addr) (c : Nat) (T : List GT) (j n lb : Nat) (a : GTree) (u : V5) : Prop where
  p : PAt wr g A c T j n
  left : wr.heap[lb]? = some (.cells #[u.a, u.b, u.c, u.d, u.e] 28 (0, 0))
  tv : TV wr (fun k => w.heap.size + 1 ≤ k ∧ k < lb) a u
  only : Only w wr [g]
  res : wr.heap[w.heap.size]? = some (.cells zT 28 (0, 0))
theorem ExS.move {wr w w' : World} {g : Nat} {A : Option Addr} {c : Nat} {T : List GT} {i0 n0 j n lb : Nat} {a : GTree} {u : V5} (hp0 : PAt w g A c T i0 n0) (h : ExS wr w g A c T j n lb a u) {ks : List Nat} (ho : Only wr w' ks) (hk : ∀ k ∈ ks, lb < k) (hl : w.heap.size < lb) : ExS w' w g A c T j n lb a u := by
  have hg := hp0.g_lt
  have hll : lb < wr.heap.size := (Array.getElem?_eq_some_iff.1 h.left).1
  have hof : Only w w' [g] := h.only.trans ho (fun k hm => .inr (by have := hk k hm; omega))
  have hgk : g ∉ ks := fun hm => by have := hk g hm; omega
  exact ⟨hp0.goes hof ((ho.block g h.p.g_lt hgk).trans h.p.cell) h.p.hi h.p.hn, (ho.block lb hll (fun hm => by have := hk lb hm; omega)).trans h.left, TV_move (fun k hk' hP => ⟨ho.block k hk' (fun hm => by have := hk k hm; omega), hP⟩) a u h.tv, hof, (ho.block _ (by omega) (fun hm => by have := hk _ hm; omega)).trans h.res⟩
theorem isAt_other {T : List GT} {j : Nat} (h : isAt T j sBang = true) : isAt T j sEq = false := by
  unfold isAt at h ⊢
  cases ht : T[j]? with
  | none => rfl
  | some t =>
    rw [ht] at h
    simp only [Bool.and_eq_true, beq_iff_eq] at h ⊢
    have e1 : sBang.toList = [33] := by kernel_rfl
    have e2 : sEq.toList = [61] := by kernel_rfl
    rw [e1] at h
    rw [e2, h.2]
    simp
theorem joinS_wi (T : List GT) (n : Nat) (kd : Int) (a : GTree) (j : Nat) : joinS (loS T n) kd a j = wiS n j ((exprS T (loS T (n - 1)) (j + 1)).bind fun b m => .ok (.node kd gE 0 [] [a, b]) m) := by
  cases n <;> rfl
theorem expr_c {g : Nat} {A : Option Addr} {c : Nat} {T : List GT} {n : Nat} (hcm : ExOK 54 g A c T n (cmpS T (loS T n))) (hlv : LvOK g A c T n) : ExOK 45 g A c T n (exprS T (loS T n)) := by
  intro w i h
  have hgl := h.g_lt
  have HP := Aside0.mk h
  have hlen := h.len
  have hx := fun W hW => hcm W i hW
  cases hr : cmpS T (loS T n) i with
  | bad k code =>
    have e0 : exprS T (loS T n) i = .bad k code := by simp [exprS, hr, PR.bind]
    simp only [hr] at hx
    rw [e0]
    have HX := Aside0.mk hx
    clear hx hr e0 h hcm hlv
    go_enter Tryd.func45, Tryd.ntmps45
    go_wp2_with (go_at_call 54; refine (HX.out _ (HP.out.keep (by (repeat (first | (with_reducible assumption) | (with_reducible exact Only.refl _ _) | (with_reducible refine Only.allocs ?_ _) | (with_reducible refine Only.drews ?_)))))).mono ?_; rintro e w2 ⟨rfl, o2⟩)
    exact ⟨rfl, rfl, Only.trans (by (repeat (first | (with_reducible assumption) | (with_reducible exact Only.refl _ _) | (with_reducible refine Only.allocs ?_ _) | (with_reducible refine Only.drews ?_)))) o2 (fun _ h => .inl h)⟩
  | ok a j =>
    have hj0 := cmpS_on (loS_on T n) i a j hr
    have e0 : exprS T (loS T n) i = if isAt T j sEq then joinS (loS T n) 9 a j else if isAt T j sBang then joinS (loS T n) 10 a j else .ok a j := by simp only [exprS, hr, PR.bind]
    simp only [hr] at hx
    obtain ⟨R, hR⟩ : ∃ R, R = exprS T (loS T n) i := ⟨_, rfl⟩
    rw [← hR]
    rw [← hR] at e0
    have HX := Aside0.mk hx
    have HR := Aside0.mk e0
    have HLV := Aside0.mk hlv
    have hb1 : ∀ W, Only (w.alloc (.cells zT 28)) W [g] → W.heap[w.heap.size]? = some (.cells zT 28 (0, 0)) := fun W hW => (hW.block _ (by simp) (by simp; omega)).trans (heap_alloc_new w _)
    have HB1 := Aside0.mk hb1
    clear hx hr e0 h hcm hlv hR hb1
    have hmm := @run_makeMap Tryd.prog
    go_enter Tryd.func45, Tryd.ntmps45
    go_upto_region 2 with (go_at_call 54; refine (HX.out _ (HP.out.keep (by (repeat (first | (with_reducible assumption) | (with_reducible exact Only.refl _ _) | (with_reducible refine Only.allocs ?_ _) | (with_reducible refine Only.drews ?_)))))).mono ?_; rintro e w2 ⟨u2, rfl, htv2, hp2, o2⟩; obtain ⟨kd2, s2, n2, A32, n32, c32, A42, n42, c42, rfl⟩ := htv2.five; have q2 : Only w w2 [g] := Only.trans (by (repeat (first | (with_reducible assumption) | (with_reducible exact Only.refl _ _) | (with_reducible refine Only.allocs ?_ _) | (with_reducible refine Only.drews ?_)))) o2 (fun _ h => .inl h); have HP2 := Aside0.mk hp2; have HTV2 := Aside0.mk htv2; have hb2 := HB1.out w2 o2; have hz2 : w.heap.size + 1 ≤ w2.heap.size := (by have := o2.size; simpa using this); have HB2 := Aside0.mk hb2; have HQ2 := Aside0.mk q2; clear htv2 hp2 o2 hb2 q2)
    obtain ⟨w3, hw3⟩ : ∃ w3, w3 = w2.alloc (.cells #[.int .i64 kd2, .string s2, .int .i64 n2, .slice A32 n32 c32, .slice A42 n42 c42] 28) := ⟨_, rfl⟩
    rw [← hw3]
    have o23 : Only w2 w3 [] := by rw [hw3]; exact Only.alloc w2 _ []
    have hl3 : w3.heap[w2.heap.size]? = some (.cells #[.int .i64 kd2, .string s2, .int .i64 n2, .slice A32 n32 c32, .slice A42 n42 c42] 28 (0, 0)) := by rw [hw3]; exact heap_alloc_new w2 _
    have hz3 : w2.heap.size < w3.heap.size := (Array.getElem?_eq_some_iff.1 hl3).1
    have S3 : ExS w3 w g A c T j n w2.heap.size a ⟨.int .i64 kd2, .string s2, .int .i64 n2, .slice A32 n32 c32, .slice A42 n42 c42⟩ :=
      ⟨HP2.out.keep o23, hl3, TV_move (fun k hk hP => ⟨o23.block k hk (by simp), by simp at hP; omega, hk⟩) a _ HTV2.out, HQ2.out.trans o23 (by simp), (o23.block _ (by omega) (by simp)).trans HB2.out⟩
    have HS3 := Aside0.mk S3
    clear hw3 o23 hl3 S3
    have hown0 := World.ownsMap_made (H := Unit) w3 Tryd.prog 9 (plainElem Tryd.prog 3)
    have hk1 : keyOf Tryd.prog 9 (.string ⟨#[61]⟩) = some (.string [61]) := WideMaps.keyOf_string_mk Tryd.underlying9 (s := ⟨#[61]⟩) (by decide)
    have hk2 : keyOf Tryd.prog 9 (.string ⟨#[33]⟩) = some (.string [33]) := WideMaps.keyOf_string_mk Tryd.underlying9 (s := ⟨#[33]⟩) (by decide)
    have v9 : plainElem (H := Unit) Tryd.prog 3 (.int .i64 9) = some (.lit (.int .i64 9), []) := plainElem_int Tryd.underlying3 (by decide)
    have v10 : plainElem (H := Unit) Tryd.prog 3 (.int .i64 10) = some (.lit (.int .i64 10), []) := plainElem_int Tryd.underlying3 (by decide)
    go_wp2_with (first
      | (at_range; refine wpList_range_own _ rfl _ 88 rfl 9 3 law9 Tryd.underlying88 _ _ 2 DM rfl hown2 ?_; intro w6 hrg0 hg6 hs6)
      | (refine wpList_insert_own _ rfl _ _ _ 88 rfl 9 3 law9 Tryd.underlying88 _ _ 1 _ rfl hown1 (by unfold maxLen; omega) _ _ (.string [33]) rfl rfl hk2 _ [] v10 ?_; intro w5 hown2 hg5)
      | (refine wpList_insert_own _ rfl _ _ _ 88 rfl 9 3 law9 Tryd.underlying88 _ _ 0 _ rfl hown0 (by unfold maxLen; omega) _ _ (.string [61]) rfl rfl hk1 _ [] v9 ?_; intro w4 hown1 hg4))
    have o36 : Only w3 w6 [w3.heap.size] := (((Only.alloc w3 (.map #[] 0) [w3.heap.size]).trans (Only.grown hg4 (by simp)) (fun _ h => .inl h)).trans (Only.grown hg5 (by simp)) (fun _ h => .inl h)).trans (Only.grown hg6 (by simp)) (fun _ h => .inl h)
    have hz5 : w3.heap.size < w5.heap.size := by have h4 := hg4.size; have h5 := hg5.size; rw [size_alloc1] at h4; omega
    have S6 := HS3.out.move HP.out o36 (by simp; omega) hz2
    obtain ⟨b, hb⟩ : ∃ b, b = w3.heap.size := ⟨_, rfl⟩
    obtain ⟨r, hr⟩ : ∃ r, r = w5.heap.size := ⟨_, rfl⟩
    rw [← hb, ← hr] at hrg0
    have hbl : w2.heap.size < b := by omega
    have hrl : w2.heap.size < r := by omega
    have HRG := Aside0.mk hrg0
    have HS6 := Aside0.mk S6
    rw [← hr]
    go_frame
    clear hown0 hown1 hown2 hk1 hk2 v9 v10 hg4 hg5 hg6 hs6 hrg0 S6 o36 hmm hb hr hz5
    go_loopg [4, 5] (Maps.size DM) (fun gk v4 v5 wr => ∃ left : Lit → Bool, Aside0 (wr.ranges (H := Unit) Tryd.prog 9 (plainElem Tryd.prog 3) b r 2 DM left gk) ∧ Aside0 (∀ x : ByteArray, (x = ⟨#[61]⟩ ∨ x = ⟨#[33]⟩) → left (.string x.data.toList) = false → isAt T j x = false) ∧ Aside0 (ExS wr w g A c T j n w2.heap.size a ⟨.int .i64 kd2, .string s2, .int .i64 n2, .slice A32 n32 c32, .slice A42 n42 c42⟩))
    case atStart => exact ⟨_, HRG, ⟨fun x hx hl => by
      rcases hx with rfl | rfl
      · rw [show (⟨#[61]⟩ : ByteArray).data.toList = [61] from rfl, dm_has.1] at hl; cases hl
      · rw [show (⟨#[33]⟩ : ByteArray).data.toList = [33] from rfl, dm_has.2] at hl; cases hl⟩, HS6⟩
    case round =>
      obtain ⟨left, HRG, HNO, HS⟩ := hrel
      have hrg := HRG.out
      go_wp2_with (first
        | (at_next; refine wpList_next_ranges _ rfl _ rfl 9 law9 (plainElem Tryd.prog 3) Value.string (Value.int .i64) invK9 invV3 b r 2 _ _ _ rfl hrg ?_ ?_)
        | fail)
      · intro h0 hl0
        have e1 : R = .ok a j := by
          have h1 : isAt T j sEq = false := HNO.out ⟨#[61]⟩ (.inl rfl) (hl0 _)
          have h2 : isAt T j sBang = false := HNO.out ⟨#[33]⟩ (.inr rfl) (hl0 _)
          rw [HR.out, h1, h2]
          rfl
        have HE1 := Aside0.mk e1
        obtain ⟨y0, y1, y2, y3, y4, yf0, yf1, yf2, yf3, yf4⟩ := blk5 HS.out.res
        obtain ⟨v0, v1, v2, v3, v4, _⟩ := blk5 HS.out.left
        have hll : w2.heap.size < wr.heap.size := (Array.getElem?_eq_some_iff.1 HS.out.left).1
        clear e1 hrg hl0
        go_wp2_with fail
        obtain ⟨k1, k2, k3, k4⟩ := fin_step HP.out HS.out.p HS.out.only (.int .i64 kd2) (.string s2) (.int .i64 n2) (.slice A32 n32 c32) (.slice A42 n42 c42) HS.out.res (TV_move (Q := fun k => w.heap.size + 1 ≤ k) (fun k hk hP => ⟨rfl, hP.1⟩) a _ HS.out.tv) (Nat.lt_succ_self _) _ (Only.refl _ [])
        obtain ⟨f0, f1, f2, f3, f4, _⟩ := blk5 k4
        refine bodyPost_ret (v := .agg #[.int .i64 kd2, .string s2, .int .i64 n2, .slice A32 n32 c32, .slice A42 n42 c42]) (by simp [results, Tryd.results45, go_sem, f0, f1, f2, f3, f4]) rfl ?_
        rw [HE1.out]
        exact ⟨_, rfl, k1, k2, k3⟩
      · intro x c1 kl y yp w7 cnt' hkey hlk hv hat hrg7 hlt hg7 hs7 hen
        have S7 := HS.out.move HP.out (Only.grown hg7 (ks := [r]) (by simp)) (by simp; omega) hz2
        have HS7 := Aside0.mk S7
        have HRG7 := Aside0.mk hrg7
        have hkk := step_key hkey hv hat
        clear hs7 S7 hkey hlk hv hat hrg hrg7 hg7
        rcases hkk with ⟨rfl, rfl, rfl⟩ | ⟨rfl, rfl, rfl⟩
        · have his := is_c w7 g A c T j n ⟨#[61]⟩ HS7.out.p
          cases hb : isAt T j ⟨#[61]⟩ with
          | false =>
            rw [hb] at his
            have HIS := Aside0.mk his
            have hno : ∀ x : ByteArray, (x = ⟨#[61]⟩ ∨ x = ⟨#[33]⟩) → (fun z : Lit => left z && !z.sameKey (.string [61])) (.string x.data.toList) = false → isAt T j x = false := fun x hx hl => by
              by_cases hxk : x = ⟨#[61]⟩
              · rw [hxk]; exact hb
              · have hxo : x = ⟨#[33]⟩ := by rcases hx with h | h <;> first | exact h | exact absurd h hxk
                refine HNO.out x hx ?_
                rw [hxo] at hl ⊢
                simpa [Lit.sameKey] using hl
            have HNO2 := Aside0.mk hno
            clear his hb hno
            go_wp2_with (go_at_call 38; refine HIS.out.mono ?_; rintro e w8 ⟨rfl, d8⟩; have HD8 := Aside0.mk d8; clear d8)
            go_roundg cnt'
            case measure => exact hlt
            case rel =>
              obtain ⟨q, rfl⟩ := HD8.out
              exact ⟨fun z => left z && !z.sameKey (.string [61]), ⟨HRG7.out⟩, HNO2, ⟨HS7.out.move HP.out ((Dr.refl w7).more q |>.only []) (by simp) hz2⟩⟩
          | true =>
            rw [hb] at his
            have HIS := Aside0.mk his
            have hjt := isAt_lt hb
            have e1 : R = wiS n j ((exprS T (loS T (n - 1)) (j + 1)).bind fun b m => .ok (.node 9 gE 0 [] [a, b]) m) := by
              rw [← joinS_wi, HR.out]
              first
                | rw [if_pos (show isAt T j sEq = true from hb)]
                | rw [if_neg (by rw [isAt_other hb]; simp), if_pos (show isAt T j sBang = true from hb)]
            cases n with
            | zero =>
              have HE1 : Aside0 (R = .bad j 161) := ⟨e1⟩
              have hs := fun W hW => sink_none W g A c T j hW
              have HSK := Aside0.mk hs
              clear his hb hs e1
              go_wp2_with (first
                | (go_at_call 38; refine HIS.out.mono ?_; rintro e w8 ⟨rfl, d8⟩; have HD8 := Aside0.mk d8; clear d8)
                | (go_at_call 55; refine (HSK.out _ (HS7.out.p.keep (HD8.out.only []))).mono ?_; rintro e w9 ⟨rfl, rfl⟩))
              refine ⟨rfl, ?_⟩
              rw [HE1.out]
              exact ⟨rfl, HS7.out.only.trans (HD8.out.only []) (by simp)⟩
            | succ m =>
              have hs := fun W hW => sink_some W g A c T j m hW hjt
              have HSK := Aside0.mk hs
              have hx := fun W hW => HLV.out.1 W (j + 1) hW
              cases hr : exprS T (loS T m) (j + 1) with
              | bad k code =>
                have HE1 : Aside0 (R = .bad k code) := ⟨by rw [e1]; simp [wiS, hr, PR.bind]⟩
                simp only [hr] at hx
                have HX := Aside0.mk hx
                clear his hb hs e1 hx hr
                go_wp2_with (first
                  | (go_at_call 38; refine HIS.out.mono ?_; rintro e w8 ⟨rfl, d8⟩; have HD8 := Aside0.mk d8; clear d8)
                  | (go_at_call 55; refine (HSK.out _ (HS7.out.p.keep (HD8.out.only []))).mono ?_; rintro e w9 ⟨rfl, hp9, o9⟩; have HP9 := Aside0.mk hp9; have HO9 := Aside0.mk o9; clear hp9 o9)
                  | (go_at_call 45; refine (HX.out w9 HP9.out).mono ?_; rintro e w10 ⟨rfl, o10⟩))
                refine ⟨rfl, ?_⟩
                rw [HE1.out]
                exact ⟨rfl, ((HS7.out.only.trans (HD8.out.only []) (by simp)).trans HO9.out (fun _ h => .inl h)).trans o10 (fun _ h => .inl h)⟩
              | ok bb k =>
                have HE1 : Aside0 (R = .ok (.node 9 gE 0 [] [a, bb]) k) := ⟨by rw [e1]; simp [wiS, hr, PR.bind]⟩
                simp only [hr] at hx
                have HX := Aside0.mk hx
                clear his hb hs e1 hx hr
                go_upto_region 8 with (first
                  | (go_at_call 38; refine HIS.out.mono ?_; rintro e w8 ⟨rfl, d8⟩; have HD8 := Aside0.mk d8; clear d8)
                  | (go_at_call 55; refine (HSK.out _ (HS7.out.p.keep (HD8.out.only []))).mono ?_; rintro e w9 ⟨rfl, hp9, o9⟩; have HP9 := Aside0.mk hp9; have HO9 := Aside0.mk o9; clear hp9 o9)
                  | (go_at_call 45; refine (HX.out w9 HP9.out).mono ?_; rintro e w10 ⟨u10, rfl, htv10, hp10, o10⟩; obtain ⟨kd10, s10, n10, A310, n310, c310, A410, n410, c410, rfl⟩ := htv10.five; have HTV10 := Aside0.mk htv10; have HP10 := Aside0.mk hp10; have HO10 := Aside0.mk o10; clear htv10 hp10 o10))
                obtain ⟨w11, hw11⟩ : ∃ w11, w11 = w10.alloc (.cells #[.int .i64 kd10, .string s10, .int .i64 n10, .slice A310 n310 c310, .slice A410 n410 c410] 28) := ⟨_, rfl⟩
                rw [← hw11]
                have o1011 : Only w10 w11 [] := by rw [hw11]; exact Only.alloc w10 _ []
                have hq11 : w11.heap[w10.heap.size]? = some (.cells #[.int .i64 kd10, .string s10, .int .i64 n10, .slice A310 n310 c310, .slice A410 n410 c410] 28 (0, 0)) := by rw [hw11]; exact heap_alloc_new w10 _
                have hp11 := HP10.out.keep o1011
                have hnn := HP.out.hn
                obtain ⟨x0, x1, x2, xf0, xf1, xf2⟩ := blk3 hp11.cell
                have hg11 := hp11.g_lt
                clear hw11
                go_upto_region 9 with fail
                obtain ⟨hp12, o1112⟩ := hp11.rise hnn
                obtain ⟨w12, hw12⟩ : ∃ w12, w12 = w11.setCell ⟨g, 2, none⟩ (.int .i64 (40 - (m : Int) - 1)) := ⟨_, rfl⟩
                rw [← hw12] at hp12 o1112
                rw [← hw12]
                have o712 : Only w7 w12 [g] := ((((HD8.out.only [g]).trans HO9.out (fun _ h => .inl h)).trans HO10.out (fun _ h => .inl h)).trans o1011 (by simp)).trans o1112 (fun _ h => .inl h)
                have hll7 : w2.heap.size < w7.heap.size := (Array.getElem?_eq_some_iff.1 HS7.out.left).1
                have hl12 := (o712.block _ hll7 (by simp; omega)).trans HS7.out.left
                have hz10 : w7.heap.size ≤ w10.heap.size := by have h8 := (HD8.out.only []).size; have h9 := HO9.out.size; have h10 := HO10.out.size; omega
                have hr12 := (o1112.block _ (Array.getElem?_eq_some_iff.1 hq11).1 (by simp; omega)).trans hq11
                have hb12 := (o712.block _ (by omega) (by simp; omega)).trans HS7.out.res
                have ta := TV_move (w' := w12) (Q := fun k => w.heap.size + 1 ≤ k) (fun k hk hP => ⟨o712.block k hk (by simp; omega), hP.1⟩) a _ HS7.out.tv
                have tb := TV_move (w' := w12) (Q := fun k => w.heap.size + 1 ≤ k) (fun k hk hP => ⟨(o1112.block k (Nat.lt_of_lt_of_le hk o1011.size) (by have := HO9.out.size; have := HP9.out.g_lt; simp; omega)).trans (o1011.block k hk (by simp)), by have h8 := (HD8.out.only []).size; have h9 := HO9.out.size; omega⟩) bb _ HTV10.out
                have hz12 : w10.heap.size < w12.heap.size := (Array.getElem?_eq_some_iff.1 hr12).1
                have HPS := Aside0.mk (pair_step2 (w4 := w12) (w6 := w12) (P := fun k => w.heap.size + 1 ≤ k) (ks := []) ta (Only.refl _ _) (by simp) tb (fun k hk => by omega) 9 ⟨#[]⟩)
                have HO712 := Aside0.mk (HS7.out.only.trans o712 (fun _ h => .inl h))
                have HP12 := Aside0.mk hp12
                have HB12 := Aside0.mk hb12
                obtain ⟨v0, v1, v2, v3, v4, _⟩ := blk5 hl12
                obtain ⟨q0, q1, q2, q3, q4, _⟩ := blk5 hr12
                clear hw12 x0 x1 x2 xf0 xf1 xf2 hp12 hp11 o1112 o1011 hq11 hl12 hr12 hb12 ta tb o712
                go_wp2_with (go_at_call 23; refine HPS.out.mono ?_; rintro e w13 ⟨u13, rfl, htv13, o13⟩; obtain ⟨kd13, s13, n13, A313, n313, c313, A413, n413, c413, rfl⟩ := htv13.five; have hb13 := (o13.block _ (by omega) (by simp)).trans HB12.out; obtain ⟨y0, y1, y2, y3, y4, yf0, yf1, yf2, yf3, yf4⟩ := blk5 hb13; have hrl13 : w.heap.size < w13.heap.size := (Array.getElem?_eq_some_iff.1 hb13).1; have HTV13 := Aside0.mk htv13; have HB13 := Aside0.mk hb13; have HO13 := Aside0.mk o13; clear htv13 hb13 o13)
                obtain ⟨k1, k2, k3, k4⟩ := fin_step HP.out (HP12.out.keep HO13.out) (HO712.out.trans HO13.out (by simp)) (.int .i64 kd13) (.string s13) (.int .i64 n13) (.slice A313 n313 c313) (.slice A413 n413 c413) HB13.out HTV13.out (Nat.lt_succ_self _) _ (Only.refl _ [])
                obtain ⟨f0, f1, f2, f3, f4, _⟩ := blk5 k4
                refine bodyPost_ret (v := .agg #[.int .i64 kd13, .string s13, .int .i64 n13, .slice A313 n313 c313, .slice A413 n413 c413]) (by simp [results, Tryd.results45, go_sem, f0, f1, f2, f3, f4]) rfl ?_
                rw [HE1.out]
                exact ⟨_, rfl, k1, k2, k3⟩
        · have his := is_c w7 g A c T j n ⟨#[33]⟩ HS7.out.p
          cases hb : isAt T j ⟨#[33]⟩ with
          | false =>
            rw [hb] at his
            have HIS := Aside0.mk his
            have hno : ∀ x : ByteArray, (x = ⟨#[61]⟩ ∨ x = ⟨#[33]⟩) → (fun z : Lit => left z && !z.sameKey (.string [33])) (.string x.data.toList) = false → isAt T j x = false := fun x hx hl => by
              by_cases hxk : x = ⟨#[33]⟩
              · rw [hxk]; exact hb
              · have hxo : x = ⟨#[61]⟩ := by rcases hx with h | h <;> first | exact h | exact absurd h hxk
                refine HNO.out x hx ?_
                rw [hxo] at hl ⊢
                simpa [Lit.sameKey] using hl
            have HNO2 := Aside0.mk hno
            clear his hb hno
            go_wp2_with (go_at_call 38; refine HIS.out.mono ?_; rintro e w8 ⟨rfl, d8⟩; have HD8 := Aside0.mk d8; clear d8)
            go_roundg cnt'
            case measure => exact hlt
            case rel =>
              obtain ⟨q, rfl⟩ := HD8.out
              exact ⟨fun z => left z && !z.sameKey (.string [33]), ⟨HRG7.out⟩, HNO2, ⟨HS7.out.move HP.out ((Dr.refl w7).more q |>.only []) (by simp) hz2⟩⟩
          | true =>
            rw [hb] at his
            have HIS := Aside0.mk his
            have hjt := isAt_lt hb
            have e1 : R = wiS n j ((exprS T (loS T (n - 1)) (j + 1)).bind fun b m => .ok (.node 10 gE 0 [] [a, b]) m) := by
              rw [← joinS_wi, HR.out]
              first
                | rw [if_pos (show isAt T j sEq = true from hb)]
                | rw [if_neg (by rw [isAt_other hb]; simp), if_pos (show isAt T j sBang = true from hb)]
            cases n with
            | zero =>
              have HE1 : Aside0 (R = .bad j 161) := ⟨e1⟩
              have hs := fun W hW => sink_none W g A c T j hW
              have HSK := Aside0.mk hs
              clear his hb hs e1
              go_wp2_with (first
                | (go_at_call 38; refine HIS.out.mono ?_; rintro e w8 ⟨rfl, d8⟩; have HD8 := Aside0.mk d8; clear d8)
                | (go_at_call 55; refine (HSK.out _ (HS7.out.p.keep (HD8.out.only []))).mono ?_; rintro e w9 ⟨rfl, rfl⟩))
              refine ⟨rfl, ?_⟩
              rw [HE1.out]
              exact ⟨rfl, HS7.out.only.trans (HD8.out.only []) (by simp)⟩
            | succ m =>
              have hs := fun W hW => sink_some W g A c T j m hW hjt
              have HSK := Aside0.mk hs
              have hx := fun W hW => HLV.out.1 W (j + 1) hW
              cases hr : exprS T (loS T m) (j + 1) with
              | bad k code =>
                have HE1 : Aside0 (R = .bad k code) := ⟨by rw [e1]; simp [wiS, hr, PR.bind]⟩
                simp only [hr] at hx
                have HX := Aside0.mk hx
                clear his hb hs e1 hx hr
                go_wp2_with (first
                  | (go_at_call 38; refine HIS.out.mono ?_; rintro e w8 ⟨rfl, d8⟩; have HD8 := Aside0.mk d8; clear d8)
                  | (go_at_call 55; refine (HSK.out _ (HS7.out.p.keep (HD8.out.only []))).mono ?_; rintro e w9 ⟨rfl, hp9, o9⟩; have HP9 := Aside0.mk hp9; have HO9 := Aside0.mk o9; clear hp9 o9)
                  | (go_at_call 45; refine (HX.out w9 HP9.out).mono ?_; rintro e w10 ⟨rfl, o10⟩))
                refine ⟨rfl, ?_⟩
                rw [HE1.out]
                exact ⟨rfl, ((HS7.out.only.trans (HD8.out.only []) (by simp)).trans HO9.out (fun _ h => .inl h)).trans o10 (fun _ h => .inl h)⟩
              | ok bb k =>
                have HE1 : Aside0 (R = .ok (.node 10 gE 0 [] [a, bb]) k) := ⟨by rw [e1]; simp [wiS, hr, PR.bind]⟩
                simp only [hr] at hx
                have HX := Aside0.mk hx
                clear his hb hs e1 hx hr
                go_upto_region 8 with (first
                  | (go_at_call 38; refine HIS.out.mono ?_; rintro e w8 ⟨rfl, d8⟩; have HD8 := Aside0.mk d8; clear d8)
                  | (go_at_call 55; refine (HSK.out _ (HS7.out.p.keep (HD8.out.only []))).mono ?_; rintro e w9 ⟨rfl, hp9, o9⟩; have HP9 := Aside0.mk hp9; have HO9 := Aside0.mk o9; clear hp9 o9)
                  | (go_at_call 45; refine (HX.out w9 HP9.out).mono ?_; rintro e w10 ⟨u10, rfl, htv10, hp10, o10⟩; obtain ⟨kd10, s10, n10, A310, n310, c310, A410, n410, c410, rfl⟩ := htv10.five; have HTV10 := Aside0.mk htv10; have HP10 := Aside0.mk hp10; have HO10 := Aside0.mk o10; clear htv10 hp10 o10))
                obtain ⟨w11, hw11⟩ : ∃ w11, w11 = w10.alloc (.cells #[.int .i64 kd10, .string s10, .int .i64 n10, .slice A310 n310 c310, .slice A410 n410 c410] 28) := ⟨_, rfl⟩
                rw [← hw11]
                have o1011 : Only w10 w11 [] := by rw [hw11]; exact Only.alloc w10 _ []
                have hq11 : w11.heap[w10.heap.size]? = some (.cells #[.int .i64 kd10, .string s10, .int .i64 n10, .slice A310 n310 c310, .slice A410 n410 c410] 28 (0, 0)) := by rw [hw11]; exact heap_alloc_new w10 _
                have hp11 := HP10.out.keep o1011
                have hnn := HP.out.hn
                obtain ⟨x0, x1, x2, xf0, xf1, xf2⟩ := blk3 hp11.cell
                have hg11 := hp11.g_lt
                clear hw11
                go_upto_region 9 with fail
                obtain ⟨hp12, o1112⟩ := hp11.rise hnn
                obtain ⟨w12, hw12⟩ : ∃ w12, w12 = w11.setCell ⟨g, 2, none⟩ (.int .i64 (40 - (m : Int) - 1)) := ⟨_, rfl⟩
                rw [← hw12] at hp12 o1112
                rw [← hw12]
                have o712 : Only w7 w12 [g] := ((((HD8.out.only [g]).trans HO9.out (fun _ h => .inl h)).trans HO10.out (fun _ h => .inl h)).trans o1011 (by simp)).trans o1112 (fun _ h => .inl h)
                have hll7 : w2.heap.size < w7.heap.size := (Array.getElem?_eq_some_iff.1 HS7.out.left).1
                have hl12 := (o712.block _ hll7 (by simp; omega)).trans HS7.out.left
                have hz10 : w7.heap.size ≤ w10.heap.size := by have h8 := (HD8.out.only []).size; have h9 := HO9.out.size; have h10 := HO10.out.size; omega
                have hr12 := (o1112.block _ (Array.getElem?_eq_some_iff.1 hq11).1 (by simp; omega)).trans hq11
                have hb12 := (o712.block _ (by omega) (by simp; omega)).trans HS7.out.res
                have ta := TV_move (w' := w12) (Q := fun k => w.heap.size + 1 ≤ k) (fun k hk hP => ⟨o712.block k hk (by simp; omega), hP.1⟩) a _ HS7.out.tv
                have tb := TV_move (w' := w12) (Q := fun k => w.heap.size + 1 ≤ k) (fun k hk hP => ⟨(o1112.block k (Nat.lt_of_lt_of_le hk o1011.size) (by have := HO9.out.size; have := HP9.out.g_lt; simp; omega)).trans (o1011.block k hk (by simp)), by have h8 := (HD8.out.only []).size; have h9 := HO9.out.size; omega⟩) bb _ HTV10.out
                have hz12 : w10.heap.size < w12.heap.size := (Array.getElem?_eq_some_iff.1 hr12).1
                have HPS := Aside0.mk (pair_step2 (w4 := w12) (w6 := w12) (P := fun k => w.heap.size + 1 ≤ k) (ks := []) ta (Only.refl _ _) (by simp) tb (fun k hk => by omega) 10 ⟨#[]⟩)
                have HO712 := Aside0.mk (HS7.out.only.trans o712 (fun _ h => .inl h))
                have HP12 := Aside0.mk hp12
                have HB12 := Aside0.mk hb12
                obtain ⟨v0, v1, v2, v3, v4, _⟩ := blk5 hl12
                obtain ⟨q0, q1, q2, q3, q4, _⟩ := blk5 hr12
                clear hw12 x0 x1 x2 xf0 xf1 xf2 hp12 hp11 o1112 o1011 hq11 hl12 hr12 hb12 ta tb o712
                go_wp2_with (go_at_call 23; refine HPS.out.mono ?_; rintro e w13 ⟨u13, rfl, htv13, o13⟩; obtain ⟨kd13, s13, n13, A313, n313, c313, A413, n413, c413, rfl⟩ := htv13.five; have hb13 := (o13.block _ (by omega) (by simp)).trans HB12.out; obtain ⟨y0, y1, y2, y3, y4, yf0, yf1, yf2, yf3, yf4⟩ := blk5 hb13; have hrl13 : w.heap.size < w13.heap.size := (Array.getElem?_eq_some_iff.1 hb13).1; have HTV13 := Aside0.mk htv13; have HB13 := Aside0.mk hb13; have HO13 := Aside0.mk o13; clear htv13 hb13 o13)
                obtain ⟨k1, k2, k3, k4⟩ := fin_step HP.out (HP12.out.keep HO13.out) (HO712.out.trans HO13.out (by simp)) (.int .i64 kd13) (.string s13) (.int .i64 n13) (.slice A313 n313 c313) (.slice A413 n413 c413) HB13.out HTV13.out (Nat.lt_succ_self _) _ (Only.refl _ [])
                obtain ⟨f0, f1, f2, f3, f4, _⟩ := blk5 k4
                refine bodyPost_ret (v := .agg #[.int .i64 kd13, .string s13, .int .i64 n13, .slice A313 n313 c313, .slice A413 n413 c413]) (by simp [results, Tryd.results45, go_sem, f0, f1, f2, f3, f4]) rfl ?_
                rw [HE1.out]
                exact ⟨_, rfl, k1, k2, k3⟩
theorem lv_all (g : Nat) (A : Option Addr) (c : Nat) (T : List GT) : ∀ n, LvOK g A c T n
  | 0 => trivial
  | n + 1 => ⟨expr_c (cmp_c (unary_c (prim_c (lv_all g A c T n)) (lv_all g A c T n))) (lv_all g A c T n), unary_c (prim_c (lv_all g A c T n)) (lv_all g A c T n)⟩
theorem expr_all (g : Nat) (A : Option Addr) (c : Nat) (T : List GT) (n : Nat) : ExOK 45 g A c T n (exprS T (loS T n)) := (lv_all g A c T (n + 1)).1
theorem body_all (g : Nat) (A : Option Addr) (c : Nat) (T : List GT) (n : Nat) : ExOK 39 g A c T n (bodyS T (exprS T (loS T n))) := body_c (expr_all g A c T n) (exprS_on (loS_on T n))
end Go.Proofs.YtejidddjkngoiaaDoor
