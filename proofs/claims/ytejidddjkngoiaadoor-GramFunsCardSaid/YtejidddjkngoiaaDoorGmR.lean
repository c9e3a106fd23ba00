/- gram: sums and products. gram: sums. -/
import Derived.Test.YtejidddjkngoiaaDoorGmP
import Derived.Deep.RegionWith
namespace Go.Proofs.YtejidddjkngoiaaDoor
open Go.RowKit
set_option linter.all false

set_option maxHeartbeats 4000000
set_option maxRecDepth 100000

/-- What the closure of cmp stands on: the parser's box, itself, and the signs of the levels. -/
structure JAt (W : World) (g bp bj bv b1 b2 : Nat) : Prop where
  box : BoxAt W bp g
  self : W.heap[bj]? = some (.cells #[.func (.func 63) #[] #[.pointer (some ⟨bp, 0, none⟩), .pointer (some ⟨bj, 0, none⟩), .pointer (some ⟨bv, 0, none⟩)]] 96 (0, 0))
  lev : W.heap[bv]? = some (.cells #[.slice (some ⟨b1, 0, none⟩) 2 2, .slice (some ⟨b2, 0, none⟩) 3 3] 95 (0, 0))
  sums : W.heap[b1]? = some (.cells #[.string (gs [43]), .string (gs [45])] 9 (0, 0))
  prods : W.heap[b2]? = some (.cells #[.string (gs [42]), .string (gs [47]), .string (gs [114, 101, 109])] 9 (0, 0))
  off : bp ≠ g ∧ bj ≠ g ∧ bv ≠ g ∧ b1 ≠ g ∧ b2 ≠ g
theorem JAt.keep {W W' : World} {g bp bj bv b1 b2 : Nat} (h : JAt W g bp bj bv b1 b2) (ho : Only W W' [g]) : JAt W' g bp bj bv b1 b2 := by
  have key : ∀ k o, W.heap[k]? = some o → k ≠ g → W'.heap[k]? = some o := fun k o hk hg => (ho.block k (Array.getElem?_eq_some_iff.1 hk).1 (by simpa using hg)).trans hk
  exact ⟨key _ _ h.box h.off.1, key _ _ h.self h.off.2.1, key _ _ h.lev h.off.2.2.1, key _ _ h.sums h.off.2.2.2.1, key _ _ h.prods h.off.2.2.2.2, h.off⟩
abbrev jargs (k : Int) (bp bj bv : Nat) : Array Value := #[.int .i64 k, .pointer (some ⟨bp, 0, none⟩), .pointer (some ⟨bj, 0, none⟩), .pointer (some ⟨bv, 0, none⟩)]
/-- join is walked at a level. -/
def JoinOK (k : Int) (g bp bj bv b1 b2 : Nat) (A : Option Addr) (c : Nat) (T : List GT) (n : Nat) (sp : Nat → PR GTree) : Prop := ∀ w i, PAt w g A c T i n → JAt w g bp bj bv b1 b2 → Calls Tryd.prog 63 (jargs k bp bj bv) w (ERet w g A c T n (sp i))
theorem join_2 {g bp bj bv b1 b2 : Nat} {A : Option Addr} {c : Nat} {T : List GT} {n : Nat} {un : Nat → PR GTree} (hun : ExOK 64 g A c T n un) : JoinOK 2 g bp bj bv b1 b2 A c T n un := by
  intro w i h hj
  have hgl := h.g_lt
  have HP := Aside0.mk h
  obtain ⟨x0, _⟩ := hj.box.cell
  have hbl : bp < w.heap.size := (Array.getElem?_eq_some_iff.1 hj.box).1
  have hx := fun W hW => hun W i hW
  cases hr : un i with
  | bad k code =>
    simp only [hr] at hx
    have HX := Aside0.mk hx
    clear hx hr h hj
    go_enter Tryd.func63, Tryd.ntmps63
    go_wp2_with (go_at_call 64; refine (HX.out _ (HP.out.keep (by (repeat (first | (with_reducible assumption) | (with_reducible exact Only.refl _ _) | (with_reducible refine Only.allocs ?_ _) | (with_reducible refine Only.drews ?_)))))).mono ?_; rintro e w2 ⟨rfl, o2⟩)
    exact ⟨rfl, rfl, Only.trans (by (repeat (first | (with_reducible assumption) | (with_reducible exact Only.refl _ _) | (with_reducible refine Only.allocs ?_ _) | (with_reducible refine Only.drews ?_)))) o2 (fun _ h => .inl h)⟩
  | ok t j =>
    simp only [hr] at hx
    have HX := Aside0.mk hx
    have hb1 : ∀ W, Only (w.alloc (.cells zT 28)) W [g] → W.heap[w.heap.size]? = some (.cells zT 28 (0, 0)) := fun W hW => (hW.block _ (by simp) (by simp; omega)).trans (heap_alloc_new w _)
    have HB1 := Aside0.mk hb1
    clear hx hr h hj hb1
    go_enter Tryd.func63, Tryd.ntmps63
    go_wp2_with (go_at_call 64; refine (HX.out _ (HP.out.keep (by (repeat (first | (with_reducible assumption) | (with_reducible exact Only.refl _ _) | (with_reducible refine Only.allocs ?_ _) | (with_reducible refine Only.drews ?_)))))).mono ?_; rintro e w2 ⟨u2, rfl, htv2, hp2, o2⟩; obtain ⟨kd2, s2, n2, A32, n32, c32, A42, n42, c42, rfl⟩ := htv2.five; have q2 : Only w w2 [g] := Only.trans (by (repeat (first | (with_reducible assumption) | (with_reducible exact Only.refl _ _) | (with_reducible refine Only.allocs ?_ _) | (with_reducible refine Only.drews ?_)))) o2 (fun _ h => .inl h); have HP2 := Aside0.mk hp2; have HTV2 := Aside0.mk htv2; have hb2 := HB1.out w2 o2; have hz2 : w.heap.size + 1 ≤ w2.heap.size := (by have := o2.size; simpa using this); obtain ⟨y0, y1, y2, y3, y4, yf0, yf1, yf2, yf3, yf4⟩ := blk5 hb2; have HB2 := Aside0.mk hb2; clear htv2 hp2 o2 hb2)
    obtain ⟨k1, k2, k3, k4⟩ := fin_step HP.out HP2.out q2 (.int .i64 kd2) (.string s2) (.int .i64 n2) (.slice A32 n32 c32) (.slice A42 n42 c42) HB2.out (TV_move (Q := fun k => w.heap.size + 1 ≤ k) (fun k hk hP => ⟨rfl, by simp at hP; omega⟩) t _ HTV2.out) (Nat.lt_succ_self _) _ (Only.refl _ [])
    obtain ⟨f0, f1, f2, f3, f4, _⟩ := blk5 k4
    refine bodyPost_ret (v := .agg #[.int .i64 kd2, .string s2, .int .i64 n2, .slice A32 n32 c32, .slice A42 n42 c42]) (by simp [results, Tryd.results63, go_sem, f0, f1, f2, f3, f4]) rfl ?_
    exact ⟨_, rfl, k1, k2, k3⟩
/-- A tree of two that were just made. -/
theorem pair_step2 {w4 w6 : World} {P : Nat → Prop} {ks : List Nat} {x b : GTree} {u4 u6 : V5} (ht4 : TV w4 P x u4) (o46 : Only w4 w6 ks) (hks : ∀ k ∈ ks, ¬ P k) (ht6 : TV w6 P b u6) (hP : ∀ k, w6.heap.size ≤ k → P k) (kd : Int) (str : ByteArray) :
    Calls Tryd.prog 23 #[.int .i64 kd, .string str, .slice (some ⟨w6.heap.size, 0, none⟩) 2 2] (w6.alloc (.cells #[u4.a, u4.b, u4.c, u4.d, u4.e, u6.a, u6.b, u6.c, u6.d, u6.e] 28)) fun e w' => ∃ u : V5, e = .returned u.agg ∧ TV w' P (.node kd str 0 [] [x, b]) u ∧ Only w6 w' [] := by
  have hW := heap_alloc_new w6 (.cells #[u4.a, u4.b, u4.c, u4.d, u4.e, u6.a, u6.b, u6.c, u6.d, u6.e] 28)
  have oW := Only.alloc w6 (.cells #[u4.a, u4.b, u4.c, u4.d, u4.e, u6.a, u6.b, u6.c, u6.d, u6.e] 28) []
  have h4 := TV_move (w' := w6.alloc (.cells #[u4.a, u4.b, u4.c, u4.d, u4.e, u6.a, u6.b, u6.c, u6.d, u6.e] 28)) (Q := fun k => P k ∧ k ≠ w6.heap.size) (fun k hk hp => ⟨((o46.allocs _).block k hk (fun hm => hks k hm hp)), hp, by have := o46.size; omega⟩) x u4 ht4
  have h6 := TV_move (w' := w6.alloc (.cells #[u4.a, u4.b, u4.c, u4.d, u4.e, u6.a, u6.b, u6.c, u6.d, u6.e] 28)) (Q := fun k => P k ∧ k ≠ w6.heap.size) (fun k hk hp => ⟨oW.block k hk (by simp), hp, by omega⟩) b u6 ht6
  refine (tree_c _ P kd str _ [x, b] (RT.lit2 hW (hP _ (Nat.le_refl _)) h4 h6) (by simp)).mono ?_
  rintro e w' ⟨u, rfl, h1, h2⟩
  exact ⟨u, rfl, TV_move (fun k _ hp => ⟨rfl, hp.elim id (fun h => hP k (by simp at h; omega))⟩) _ u h1, oW.trans h2 (by simp)⟩
theorem sign_ne (s : ByteArray) (h : s ∈ sSums ∨ s ∈ sProds) : s.toList.isEmpty = false := by
  simp only [sSums, sProds, List.mem_cons, List.not_mem_nil, or_false] at h
  rcases h with (rfl | rfl) | (rfl | rfl | rfl) <;> kernel_rfl
/-- The sign that stands there, of one of the lists. -/
theorem one_lev {g bp bj bv b1 b2 : Nat} {A : Option Addr} {c : Nat} {T : List GT} {n : Nat} (W : World) (i : Nat) (h : PAt W g A c T i n) (hj : JAt W g bp bj bv b1 b2) :
    (Calls Tryd.prog 65 #[.pointer (some ⟨g, 0, none⟩), .slice (some ⟨b1, 0, none⟩) 2 2] W fun e w' => e = .returned (.string ((oneS T i sSums).getD ⟨#[]⟩)) ∧ Dr W w') ∧
    (Calls Tryd.prog 65 #[.pointer (some ⟨g, 0, none⟩), .slice (some ⟨b2, 0, none⟩) 3 3] W fun e w' => e = .returned (.string ((oneS T i sProds).getD ⟨#[]⟩)) ∧ Dr W w') := by
  refine ⟨one_c W g A c T i n h (fun _ => True) (some ⟨b1, 0, none⟩) 2 sSums (fun k s hs => ?_) (by decide), one_c W g A c T i n h (fun _ => True) (some ⟨b2, 0, none⟩) 3 sProds (fun k s hs => ?_) (by decide)⟩
  · refine ⟨b1, 0, rfl, trivial, ?_⟩
    rw [Lib.cell_of_heap hj.sums]
    have h2 : k = 0 ∨ k = 1 := by have := (List.getElem?_eq_some_iff.1 hs).1; simp [sSums] at this; omega
    rcases h2 with rfl | rfl <;> (simp [sSums] at hs; subst hs; rfl)
  · refine ⟨b2, 0, rfl, trivial, ?_⟩
    rw [Lib.cell_of_heap hj.prods]
    have h2 : k = 0 ∨ k = 1 ∨ k = 2 := by have := (List.getElem?_eq_some_iff.1 hs).1; simp [sProds] at this; omega
    rcases h2 with rfl | rfl | rfl <;> (simp [sProds] at hs; subst hs; rfl)
theorem join_1 {g bp bj bv b1 b2 : Nat} {A : Option Addr} {c : Nat} {T : List GT} {n : Nat} {sub : Nat → PR GTree} (hsub : JoinOK 2 g bp bj bv b1 b2 A c T n sub) (hon : OnF T sub) : JoinOK 1 g bp bj bv b1 b2 A c T n (fun i => (sub i).bind fun a j => chainS T sub sProds (T.length + 1) j a) := by
  intro w i h hj
  show Calls _ _ _ w (ERet w g A c T n ((sub i).bind fun a j => chainS T sub sProds (T.length + 1) j a))
  have hgl := h.g_lt
  have HP := Aside0.mk h
  have hlen := h.len
  have HSUB := Aside0.mk hsub
  have hcell : ∀ W, JAt W g bp bj bv b1 b2 → W.cell? ⟨bp, 0, none⟩ = some (.pointer (some ⟨g, 0, none⟩)) ∧ W.cell? ⟨bj, 0, none⟩ = some (.func (.func 63) #[] #[.pointer (some ⟨bp, 0, none⟩), .pointer (some ⟨bj, 0, none⟩), .pointer (some ⟨bv, 0, none⟩)]) ∧ W.cell? ⟨bv, 1, none⟩ = some (.slice (some ⟨b2, 0, none⟩) 3 3) := fun W hW =>
    ⟨hW.box.cell.1, by rw [Lib.cell_of_heap hW.self]; rfl, by rw [Lib.cell_of_heap hW.lev]; rfl⟩
  obtain ⟨x0, x1, x2⟩ := hcell w hj
  have HCELL := Aside0.mk hcell
  have HJ := Aside0.mk hj
  have hone := fun W i hW hj => (one_lev (g := g) (bp := bp) (bj := bj) (bv := bv) (b1 := b1) (b2 := b2) (A := A) (c := c) (T := T) (n := n) W i hW hj).2
  have HONE := Aside0.mk hone
  have hbpl : bp < w.heap.size := (Array.getElem?_eq_some_iff.1 hj.box).1
  have hbjl : bj < w.heap.size := (Array.getElem?_eq_some_iff.1 hj.self).1
  have hbvl : bv < w.heap.size := (Array.getElem?_eq_some_iff.1 hj.lev).1
  have hx := fun W hW hj => hsub W i hW hj
  cases hr : sub i with
  | bad k code =>
    simp only [hr] at hx
    show Calls _ _ _ w (ERet w g A c T n (PR.bad k code))
    have HX := Aside0.mk hx
    clear hx hr h hj hsub hone hcell
    go_enter Tryd.func63, Tryd.ntmps63
    go_wp2_with (go_at_call 63; refine (HX.out _ (HP.out.keep (by (repeat (first | (with_reducible assumption) | (with_reducible exact Only.refl _ _) | (with_reducible refine Only.allocs ?_ _) | (with_reducible refine Only.drews ?_))))) (HJ.out.keep (by (repeat (first | (with_reducible assumption) | (with_reducible exact Only.refl _ _) | (with_reducible refine Only.allocs ?_ _) | (with_reducible refine Only.drews ?_)))))).mono ?_; rintro e w2 ⟨rfl, o2⟩)
    exact ⟨rfl, rfl, Only.trans (by (repeat (first | (with_reducible assumption) | (with_reducible exact Only.refl _ _) | (with_reducible refine Only.allocs ?_ _) | (with_reducible refine Only.drews ?_)))) o2 (fun _ h => .inl h)⟩
  | ok a0 j0 =>
    have hj0 := hon i a0 j0 hr
    simp only [hr] at hx
    have HX := Aside0.mk hx
    have hb1 : ∀ W, Only (w.alloc (.cells zT 28)) W [g] → W.heap[w.heap.size]? = some (.cells zT 28 (0, 0)) := fun W hW => (hW.block _ (by simp) (by simp; omega)).trans (heap_alloc_new w _)
    have HB1 := Aside0.mk hb1
    clear hx hr h hj hsub hone hcell hb1
    show Calls _ _ _ w (ERet w g A c T n (chainS T sub sProds (T.length + 1) j0 a0))
    obtain ⟨R, hR⟩ : ∃ R, R = chainS T sub sProds (T.length + 1) j0 a0 := ⟨_, rfl⟩
    rw [← hR]
    have HR := Aside0.mk hR
    clear hR
    go_enter Tryd.func63, Tryd.ntmps63
    go_wp2_with (go_at_call 63; refine (HX.out _ (HP.out.keep (by (repeat (first | (with_reducible assumption) | (with_reducible exact Only.refl _ _) | (with_reducible refine Only.allocs ?_ _) | (with_reducible refine Only.drews ?_))))) (HJ.out.keep (by (repeat (first | (with_reducible assumption) | (with_reducible exact Only.refl _ _) | (with_reducible refine Only.allocs ?_ _) | (with_reducible refine Only.drews ?_)))))).mono ?_; rintro e w2 ⟨u2, rfl, htv2, hp2, o2⟩; obtain ⟨kd2, s2, n2, A32, n32, c32, A42, n42, c42, rfl⟩ := htv2.five; have q2 : Only w w2 [g] := Only.trans (by (repeat (first | (with_reducible assumption) | (with_reducible exact Only.refl _ _) | (with_reducible refine Only.allocs ?_ _) | (with_reducible refine Only.drews ?_)))) o2 (fun _ h => .inl h); have HP2 := Aside0.mk hp2; have HTV2 := Aside0.mk htv2; have hb2 := HB1.out w2 o2; have hz2 : w.heap.size + 1 ≤ w2.heap.size := (by have := o2.size; simpa using this); have HB2 := Aside0.mk hb2; have HQ2 := Aside0.mk q2; clear htv2 hp2 o2 hb2 q2)
    obtain ⟨w3, hw3⟩ : ∃ w3, w3 = w2.alloc (.cells #[.int .i64 kd2, .string s2, .int .i64 n2, .slice A32 n32 c32, .slice A42 n42 c42] 28) := ⟨_, rfl⟩
    rw [← hw3]
    have o23 : Only w2 w3 [] := by rw [hw3]; exact Only.alloc w2 _ []
    have hl3 : w3.heap[w2.heap.size]? = some (.cells #[.int .i64 kd2, .string s2, .int .i64 n2, .slice A32 n32 c32, .slice A42 n42 c42] 28 (0, 0)) := by rw [hw3]; exact heap_alloc_new w2 _
    have hp3 := HP2.out.keep o23
    have q3 : Only w w3 [g] := HQ2.out.trans o23 (by simp)
    have hj3 := HJ.out.keep q3
    have hb3 := (o23.block _ (by omega) (by simp)).trans HB2.out
    have ht3 := TV_move (w' := w3) (Q := fun k => w.heap.size + 1 ≤ k ∧ k ≠ w2.heap.size) (fun k hk hP => ⟨o23.block k hk (by simp), by simp at hP; omega, by omega⟩) a0 _ HTV2.out
    obtain ⟨x0, x1, x2⟩ := HCELL.out w3 hj3
    have hgl3 := hp3.g_lt
    have hz3 : w2.heap.size < w3.heap.size := (Array.getElem?_eq_some_iff.1 hl3).1
    have HP3 := Aside0.mk hp3
    have HQ3 := Aside0.mk q3
    have HJ3 := Aside0.mk hj3
    have HB3 := Aside0.mk hb3
    have HT3 := Aside0.mk ht3
    have HL3 := Aside0.mk hl3
    clear hw3 o23 hl3 hp3 q3 hj3 hb3 ht3
    go_quiet ((go_at_call 65; exact Calls.quiet_of (HONE.out _ _ (HP3.out.keep ((Dr.refl w3).more _ |>.only [])) (HJ3.out.keep ((Dr.refl w3).more _ |>.only _)))))
    have hdr : Dr w3 (w3.drewN nq) := (Dr.refl w3).more _
    have HDR := Aside0.mk hdr
    obtain ⟨w3', hw3'⟩ : ∃ w3', w3' = w3.drewN nq := ⟨_, rfl⟩
    rw [← hw3'] at HDR
    rw [← hw3']
    clear hw3' hdr
    have hP3 := HP3.out.keep (HDR.out.only [])
    have hL3 := (HDR.out.only []).block _ hz3 (by simp) |>.trans HL3.out
    have hT3 := TV_move (w' := w3') (Q := fun k => w.heap.size + 1 ≤ k ∧ k ≠ w2.heap.size) (fun k hk hP => ⟨(HDR.out.only []).block k hk (by simp), hP⟩) a0 _ HT3.out
    have hQ3 := HQ3.out.trans (HDR.out.only []) (by simp)
    have hB3 := (HDR.out.only []).block _ (Nat.lt_trans (by omega) hz3) (by simp) |>.trans HB3.out
    have S0 := Aside0.mk (And.intro hP3 (And.intro hL3 (And.intro hT3 (And.intro hQ3 hB3))))
    clear hP3 hL3 hT3 hQ3 hB3 x0 x1 x2
    clear HP3 HL3 HT3 HQ3 HB3
    go_wp2_with fail
    go_loopg [7] (T.length + 1) (fun gk v7 wr => ∃ (i' : Nat) (a : GTree) (u : V5), T.length < gk + i' ∧ i' ≤ T.length ∧ v7 = .string ((oneS T i' sProds).getD ⟨#[]⟩) ∧ Aside0 (PAt wr g A c T i' n ∧ wr.heap[w2.heap.size]? = some (.cells #[u.a, u.b, u.c, u.d, u.e] 28 (0, 0)) ∧ TV wr (fun k => w.heap.size + 1 ≤ k ∧ k ≠ w2.heap.size) a u ∧ Only w wr [g] ∧ wr.heap[w.heap.size]? = some (.cells zT 28 (0, 0))) ∧ Aside0 (R = chainS T sub sProds gk i' a))
    case atStart => exact ⟨j0, a0, ⟨.int .i64 kd2, .string s2, .int .i64 n2, .slice A32 n32 c32, .slice A42 n42 c42⟩, by omega, hj0.2, rfl, S0, HR⟩
    case round =>
      obtain ⟨i', a, u, hf, hi', rfl, HS, HEQ⟩ := hrel
      obtain ⟨gf, rfl⟩ : ∃ gf, gk = gf + 1 := ⟨gk - 1, by omega⟩
      obtain ⟨hPr, hLr, hTr, hQr, hBr⟩ := HS.out
      obtain ⟨kdr, sr, nr, A3r, n3r, c3r, A4r, n4r, c4r, rfl⟩ := hTr.five
      cases ho : oneS T i' sProds with
      | none =>
        have e1 : R = .ok a i' := by
          rw [HEQ.out, chainS, ho]
        obtain ⟨y0, y1, y2, y3, y4, yf0, yf1, yf2, yf3, yf4⟩ := blk5 hBr
        obtain ⟨v0, v1, v2, v3, v4, _⟩ := blk5 hLr
        have HE1 := Aside0.mk e1
        have hlr : w2.heap.size < wr.heap.size := (Array.getElem?_eq_some_iff.1 hLr).1
        simp only [Option.getD_none]
        clear hPr hLr hTr hQr hBr ho e1
        go_wp2_with fail
        obtain ⟨hPr, hLr, hTr, hQr, hBr⟩ := HS.out
        obtain ⟨k1, k2, k3, k4⟩ := fin_step HP.out hPr hQr (.int .i64 kdr) (.string sr) (.int .i64 nr) (.slice A3r n3r c3r) (.slice A4r n4r c4r) hBr (TV_move (Q := fun k => w.heap.size + 1 ≤ k) (fun k hk hP => ⟨rfl, hP.1⟩) a _ hTr) (Nat.lt_succ_self _) _ (Only.refl _ [])
        obtain ⟨f0, f1, f2, f3, f4, _⟩ := blk5 k4
        refine bodyPost_ret (v := .agg #[.int .i64 kdr, .string sr, .int .i64 nr, .slice A3r n3r c3r, .slice A4r n4r c4r]) (by simp [results, Tryd.results63, go_sem, f0, f1, f2, f3, f4]) rfl ?_
        rw [HE1.out]
        exact ⟨_, rfl, k1, k2, k3⟩
      | some s =>
        simp only [Option.getD_some]
        have hmem : s ∈ sProds := List.mem_of_find?_eq_some ho
        have hne : s.toList.isEmpty = false := sign_ne s (by first | exact .inl hmem | exact .inr hmem)
        have hat : isAt T i' s = true := List.find?_some ho
        have hlt := isAt_lt hat
        obtain ⟨x0, x1, x2⟩ := HCELL.out wr (HJ.out.keep hQr)
        obtain ⟨p0, p1, p2, pf0, pf1, pf2⟩ := blk3 hPr.cell
        have hlr : w2.heap.size < wr.heap.size := (Array.getElem?_eq_some_iff.1 hLr).1
        have HLR := Aside0.mk hLr
        clear hPr hLr hTr hQr hBr hmem hat
        have hgr : g < wr.heap.size := HS.out.1.g_lt
        go_wp2_with fail
        obtain ⟨w4, hw4⟩ : ∃ w4, w4 = wr.setCell ⟨g, 1, none⟩ (.int .i64 ((i' : Int) + 1)) := ⟨_, rfl⟩
        rw [← hw4]
        obtain ⟨hPr, hLr, hTr, hQr, hBr⟩ := HS.out
        obtain ⟨hp4, o4⟩ := hPr.step (j := i' + 1) hlt
        rw [show (((i' + 1 : Nat) : Int)) = (i' : Int) + 1 by omega, ← hw4] at hp4 o4
        have hg2 : g ≠ w2.heap.size := by omega
        have hl4 := (o4.block _ hlr (by simp; omega)).trans hLr
        have hj4 := HJ.out.keep (hQr.trans o4 (fun _ h => .inl h))
        have hq4 : Only w w4 [g] := hQr.trans o4 (fun _ h => .inl h)
        have hw1 : IntKind.i64.wrap 2 = 2 := by decide
        have hall : ∀ W, Only w4 W [] → W.cell? ⟨w2.heap.size, 0, none⟩ = some (.int .i64 kdr) ∧ W.cell? ⟨w2.heap.size, 1, none⟩ = some (.string sr) ∧ W.cell? ⟨w2.heap.size, 2, none⟩ = some (.int .i64 nr) ∧ W.cell? ⟨w2.heap.size, 3, none⟩ = some (.slice A3r n3r c3r) ∧ W.cell? ⟨w2.heap.size, 4, none⟩ = some (.slice A4r n4r c4r) ∧ W.cell? ⟨bj, 0, none⟩ = some (.func (.func 63) #[] #[.pointer (some ⟨bp, 0, none⟩), .pointer (some ⟨bj, 0, none⟩), .pointer (some ⟨bv, 0, none⟩)]) := fun W hW => by
          obtain ⟨q0, q1, q2, q3, q4, _⟩ := blk5 ((hW.block _ (Array.getElem?_eq_some_iff.1 hl4).1 (by simp)).trans hl4)
          exact ⟨q0, q1, q2, q3, q4, (HCELL.out W (hj4.keep (hW.weaken (by simp)))).2.1⟩
        have HALL := Aside0.mk hall
        have HP4 := Aside0.mk hp4
        have HJ4 := Aside0.mk hj4
        have HQ4 := Aside0.mk hq4
        have HO4 := Aside0.mk o4
        have hx := fun W hW hj => HSUB.out W (i' + 1) hW hj
        cases hr : sub (i' + 1) with
        | bad k code =>
          have e1 : R = .bad k code := by
            rw [HEQ.out, chainS, ho]
            simp only [hr, PR.bind]
          simp only [hr] at hx
          have HX := Aside0.mk hx
          have HE1 := Aside0.mk e1
          obtain ⟨q0, q1, q2, q3, q4, q5⟩ := hall w4 (Only.refl _ _)
          clear hx hr e1 hall hp4 hj4 hq4 o4 hPr hLr hTr hQr hBr hw4 hl4 ho x0 x1 x2 p0 p1 p2 pf0 pf1 pf2
          refine wp_region_any (by kernel_rfl) ?_
          (try (change wpAny _ _ _ _ _ _ _ (World.drew _)))
          refine wpAny_take (i := 0) (v := ?_) rfl (by kernel_rfl) (by kernel_rfl) (by kernel_rfl) (fun _ _ _ h => h) (Or.inl ⟨by rfl, ?_⟩) ?_; rotate_left; (focus (intro _wq; go_simp; (first | done | (with_reducible rfl))))
          refine wpAny_take (i := 3) (v := ?_) rfl (by kernel_rfl) (by kernel_rfl) (by kernel_rfl) (fun _ _ _ h => h) (Or.inl ⟨by rfl, ?_⟩) ?_; rotate_left; (focus (intro _wq; go_simp; (first | done | (with_reducible rfl))))
          refine wpAny_take (i := 4) (v := ?_) rfl (by kernel_rfl) (by kernel_rfl) (by kernel_rfl) (fun _ _ _ h => h) (Or.inl ⟨by rfl, ?_⟩) ?_; rotate_left; (focus (intro _wq; go_simp; (first | done | (with_reducible rfl))))
          refine wpAny_ready (rs := [1, 2]) (by kernel_rfl) (by simp) ?_
          refine AllReady.cons rfl (fun K hK => ?_) ?_
          · go_simp
            refine hK _ _ ?_
            refine wpAny_ready (rs := [2]) (by kernel_rfl) (by simp) ?_
            refine AllReady.cons rfl (fun K2 hK2 => ?_) AllReady.nil
            go_simp
            refine hK2 _ _ ?_
            refine wpAny_ready (rs := [5]) (by kernel_rfl) (by simp) ?_
            refine AllReady.cons rfl (fun K3 hK3 => ?_) AllReady.nil
            go_simp
            (refine (HX.out _ (HP4.out.keep (by (repeat (first | (with_reducible assumption) | (with_reducible exact Only.refl _ _) | (with_reducible refine Only.allocs ?_ _) | (with_reducible refine Only.drews ?_))))) (HJ4.out.keep (by (repeat (first | (with_reducible assumption) | (with_reducible exact Only.refl _ _) | (with_reducible refine Only.allocs ?_ _) | (with_reducible refine Only.drews ?_)))))).mono ?_; rintro e w6 ⟨rfl, o6⟩; refine ⟨rfl, ?_⟩; rw [HE1.out]; exact ⟨rfl, HQ4.out.trans (Only.trans (by (repeat (first | (with_reducible assumption) | (with_reducible exact Only.refl _ _) | (with_reducible refine Only.allocs ?_ _) | (with_reducible refine Only.drews ?_)))) o6 (fun _ h => .inl h)) (fun _ h => .inl h)⟩)
          · refine AllReady.cons rfl (fun K hK => ?_) AllReady.nil
            go_simp
            refine hK _ _ ?_
            refine wpAny_ready (rs := [1, 5]) (by kernel_rfl) (by simp) ?_
            refine AllReady.cons rfl (fun K hK => ?_) ?_
            · go_simp
              refine hK _ _ ?_
              refine wpAny_ready (rs := [5]) (by kernel_rfl) (by simp) ?_
              refine AllReady.cons rfl (fun K2 hK2 => ?_) AllReady.nil
              go_simp
              (refine (HX.out _ (HP4.out.keep (by (repeat (first | (with_reducible assumption) | (with_reducible exact Only.refl _ _) | (with_reducible refine Only.allocs ?_ _) | (with_reducible refine Only.drews ?_))))) (HJ4.out.keep (by (repeat (first | (with_reducible assumption) | (with_reducible exact Only.refl _ _) | (with_reducible refine Only.allocs ?_ _) | (with_reducible refine Only.drews ?_)))))).mono ?_; rintro e w6 ⟨rfl, o6⟩; refine ⟨rfl, ?_⟩; rw [HE1.out]; exact ⟨rfl, HQ4.out.trans (Only.trans (by (repeat (first | (with_reducible assumption) | (with_reducible exact Only.refl _ _) | (with_reducible refine Only.allocs ?_ _) | (with_reducible refine Only.drews ?_)))) o6 (fun _ h => .inl h)) (fun _ h => .inl h)⟩)
            · refine AllReady.cons rfl (fun K hK => ?_) AllReady.nil
              go_simp
              (refine (HX.out _ (HP4.out.keep (by (repeat (first | (with_reducible assumption) | (with_reducible exact Only.refl _ _) | (with_reducible refine Only.allocs ?_ _) | (with_reducible refine Only.drews ?_))))) (HJ4.out.keep (by (repeat (first | (with_reducible assumption) | (with_reducible exact Only.refl _ _) | (with_reducible refine Only.allocs ?_ _) | (with_reducible refine Only.drews ?_)))))).mono ?_; rintro e w6 ⟨rfl, o6⟩; refine ⟨rfl, ?_⟩; rw [HE1.out]; exact ⟨rfl, HQ4.out.trans (Only.trans (by (repeat (first | (with_reducible assumption) | (with_reducible exact Only.refl _ _) | (with_reducible refine Only.allocs ?_ _) | (with_reducible refine Only.drews ?_)))) o6 (fun _ h => .inl h)) (fun _ h => .inl h)⟩)
        | ok b j =>
          have hj2 := hon (i' + 1) b j hr
          have e1 : R = chainS T sub sProds gf j (.node 8 s 0 [] [a, b]) := by
            rw [HEQ.out, chainS, ho]
            simp only [hr, PR.bind]
          simp only [hr] at hx
          have HX := Aside0.mk hx
          have HE1 := Aside0.mk e1
          have ht4 := TV_move (w' := w4) (Q := fun k => w.heap.size + 1 ≤ k ∧ k ≠ w2.heap.size) (fun k hk hP => ⟨o4.block k hk (by simp; omega), hP⟩) a _ hTr
          have HT4 := Aside0.mk ht4
          have HL4 := Aside0.mk hl4
          have hb4 := (o4.block _ (by omega) (by simp; omega)).trans hBr
          have HB4 := Aside0.mk hb4
          have hz4 : wr.heap.size ≤ w4.heap.size := o4.size
          clear hx hr e1 hall hp4 hj4 hq4 o4 hPr hLr hTr hQr hBr hw4 hl4 ho x0 x1 x2 p0 p1 p2 pf0 pf1 pf2 ht4 hb4
          obtain ⟨q0, q1, q2, q3, q4, _, _, _, _, _⟩ := blk5 HL4.out
          have q5 := (HALL.out w4 (Only.refl _ _)).2.2.2.2.2
          go_region_with (first
            | (go_at_call 63; refine (HX.out _ (HP4.out.keep (by (repeat (first | (with_reducible assumption) | (with_reducible exact Only.refl _ _) | (with_reducible refine Only.allocs ?_ _) | (with_reducible refine Only.drews ?_))))) (HJ4.out.keep (by (repeat (first | (with_reducible assumption) | (with_reducible exact Only.refl _ _) | (with_reducible refine Only.allocs ?_ _) | (with_reducible refine Only.drews ?_)))))).mono ?_; rintro e w6 ⟨u6, rfl, htv6, hp6, o6⟩; obtain ⟨kd6, s6, n6, A36, n36, c36, A46, n46, c46, rfl⟩ := htv6.five; have o46 : Only w4 w6 [g] := Only.trans (by (repeat (first | (with_reducible assumption) | (with_reducible exact Only.refl _ _) | (with_reducible refine Only.allocs ?_ _) | (with_reducible refine Only.drews ?_)))) o6 (fun _ h => .inl h); have HP6 := Aside0.mk hp6; have HO46 := Aside0.mk o46; have hl6 := (o46.block _ (Array.getElem?_eq_some_iff.1 HL4.out).1 (by simp; omega)).trans HL4.out; obtain ⟨v0, v1, v2, v3, v4, _⟩ := blk5 hl6; have HL6 := Aside0.mk hl6; have HPS := Aside0.mk (pair_step2 (P := fun k => w.heap.size + 1 ≤ k ∧ k ≠ w2.heap.size) HT4.out o46 (by simp; omega) (TV_move (Q := fun k => w.heap.size + 1 ≤ k ∧ k ≠ w2.heap.size) (fun k _ hP => ⟨rfl, by have hP' : w4.heap.size ≤ k := hP; omega⟩) b _ htv6) (fun k hk => by have := o46.size; omega) 8 s); have hz6 : w4.heap.size ≤ w6.heap.size := o46.size; clear htv6 hp6 o6 o46 hl6)
            | (go_at_call 23; refine HPS.out.mono ?_; rintro e w7 ⟨u7, rfl, htv7, o7⟩; obtain ⟨kd7, s7, n7, A37, n37, c37, A47, n47, c47, rfl⟩ := htv7.five; have hl7 := (o7.block _ (Array.getElem?_eq_some_iff.1 HL6.out).1 (by simp)).trans HL6.out; obtain ⟨y0, y1, y2, y3, y4, yf0, yf1, yf2, yf3, yf4⟩ := blk5 hl7; have hlr7 : w2.heap.size < w7.heap.size := (Array.getElem?_eq_some_iff.1 hl7).1; have HTV7 := Aside0.mk htv7; have HL7 := Aside0.mk hl7; have HO7 := Aside0.mk o7; clear htv7 hl7 o7))
          all_goals
            obtain ⟨w8, hw8⟩ : ∃ w8, w8 = (((((w7.setCell ⟨w2.heap.size, 0, none⟩ (.int .i64 kd7)).setCell ⟨w2.heap.size, 1, none⟩ (.string s7)).setCell ⟨w2.heap.size, 2, none⟩ (.int .i64 n7)).setCell ⟨w2.heap.size, 3, none⟩ (.slice A37 n37 c37)).setCell ⟨w2.heap.size, 4, none⟩ (.slice A47 n47 c47)) := ⟨_, rfl⟩
            rw [← hw8]
            have o78 : Only w7 w8 [w2.heap.size] := by rw [hw8]; exact Only.set5 w7 w2.heap.size _ _ _ _ _ _ (by simp)
            have hl8 : w8.heap[w2.heap.size]? = some (.cells #[.int .i64 kd7, .string s7, .int .i64 n7, .slice A37 n37 c37, .slice A47 n47 c47] 28 (0, 0)) := by rw [hw8]; exact set5_heap HL7.out _ _ _ _ _
            clear hw8
            have hz67 : w6.heap.size ≤ w7.heap.size := HO7.out.size
            have hq8 : Only w w8 [g] := ((HQ4.out.trans HO46.out (fun _ h => .inl h)).trans HO7.out (by simp)).trans o78 (fun k hk => .inr (by simp at hk; omega))
            have hp8 : PAt w8 g A c T j n := HP.out.goes hq8 ((o78.block g (by omega) (by simp; omega)).trans (HP6.out.keep HO7.out).cell) hj2.2 HP.out.hn
            have ht8 := TV_move (w' := w8) (Q := fun k => w.heap.size + 1 ≤ k ∧ k ≠ w2.heap.size) (fun k hk hP => ⟨o78.block k hk (by simp; omega), hP⟩) _ _ HTV7.out
            have hb8 : w8.heap[w.heap.size]? = some (.cells zT 28 (0, 0)) := (o78.block _ (by omega) (by simp; omega)).trans ((HO7.out.block _ (by omega) (by simp)).trans ((HO46.out.block _ (by omega) (by simp; omega)).trans HB4.out))
            have hj8 := HJ.out.keep hq8
            obtain ⟨x0, x1, x2⟩ := HCELL.out w8 hj8
            have hz8 : w2.heap.size < w8.heap.size := (Array.getElem?_eq_some_iff.1 hl8).1
            have HP8 := Aside0.mk hp8
            have HJ8 := Aside0.mk hj8
            have HH8 := Aside0.mk (And.intro hl8 (And.intro ht8 (And.intro hq8 hb8)))
            clear o78 hl8 hp8 hj8 ht8 hb8 hq8 q0 q1 q2 q3 q4 q5 v0 v1 v2 v3 v4 y0 y1 y2 y3 y4 yf0 yf1 yf2 yf3 yf4
            go_wp2_with fail
            go_quiet ((go_at_call 65; exact Calls.quiet_of (HONE.out _ _ (HP8.out.keep ((Dr.refl w8).more _ |>.only [])) (HJ8.out.keep ((Dr.refl w8).more _ |>.only _)))))
            go_wp2_with fail
            have hdr : Dr w8 (w8.drewN nq) := (Dr.refl w8).more _
            obtain ⟨hl8, ht8, hq8, hb8⟩ := HH8.out
            have hP8 := HP8.out.keep (hdr.only [])
            have hL8 := (hdr.only []).block _ hz8 (by simp) |>.trans hl8
            have hT8 := TV_move (w' := w8.drewN nq) (Q := fun k => w.heap.size + 1 ≤ k ∧ k ≠ w2.heap.size) (fun k hk hP => ⟨(hdr.only []).block k hk (by simp), hP⟩) _ _ ht8
            have hQ8 := hq8.trans (hdr.only []) (by simp)
            have hB8 := (hdr.only []).block _ (by omega) (by simp) |>.trans hb8
            have S8 := Aside0.mk (And.intro hP8 (And.intro hL8 (And.intro hT8 (And.intro hQ8 hB8))))
            clear hl8 ht8 hq8 hb8 hP8 hL8 hT8 hQ8 hB8 hdr
            go_roundg gf
            case measure => omega
            case rel => exact ⟨j, .node 8 s 0 [] [a, b], ⟨.int .i64 kd7, .string s7, .int .i64 n7, .slice A37 n37 c37, .slice A47 n47 c47⟩, by omega, hj2.2, rfl, S8, HE1⟩
set_option maxHeartbeats 4000000
set_option maxRecDepth 100000

theorem join_0 {g bp bj bv b1 b2 : Nat} {A : Option Addr} {c : Nat} {T : List GT} {n : Nat} {sub : Nat → PR GTree} (hsub : JoinOK 1 g bp bj bv b1 b2 A c T n sub) (hon : OnF T sub) : JoinOK 0 g bp bj bv b1 b2 A c T n (fun i => (sub i).bind fun a j => chainS T sub sSums (T.length + 1) j a) := by
  intro w i h hj
  show Calls _ _ _ w (ERet w g A c T n ((sub i).bind fun a j => chainS T sub sSums (T.length + 1) j a))
  have hgl := h.g_lt
  have HP := Aside0.mk h
  have hlen := h.len
  have HSUB := Aside0.mk hsub
  have hcell : ∀ W, JAt W g bp bj bv b1 b2 → W.cell? ⟨bp, 0, none⟩ = some (.pointer (some ⟨g, 0, none⟩)) ∧ W.cell? ⟨bj, 0, none⟩ = some (.func (.func 63) #[] #[.pointer (some ⟨bp, 0, none⟩), .pointer (some ⟨bj, 0, none⟩), .pointer (some ⟨bv, 0, none⟩)]) ∧ W.cell? ⟨bv, 0, none⟩ = some (.slice (some ⟨b1, 0, none⟩) 2 2) := fun W hW =>
    ⟨hW.box.cell.1, by rw [Lib.cell_of_heap hW.self]; rfl, by rw [Lib.cell_of_heap hW.lev]; rfl⟩
  obtain ⟨x0, x1, x2⟩ := hcell w hj
  have HCELL := Aside0.mk hcell
  have HJ := Aside0.mk hj
  have hone := fun W i hW hj => (one_lev (g := g) (bp := bp) (bj := bj) (bv := bv) (b1 := b1) (b2 := b2) (A := A) (c := c) (T := T) (n := n) W i hW hj).1
  have HONE := Aside0.mk hone
  have hbpl : bp < w.heap.size := (Array.getElem?_eq_some_iff.1 hj.box).1
  have hbjl : bj < w.heap.size := (Array.getElem?_eq_some_iff.1 hj.self).1
  have hbvl : bv < w.heap.size := (Array.getElem?_eq_some_iff.1 hj.lev).1
  have hx := fun W hW hj => hsub W i hW hj
  cases hr : sub i with
  | bad k code =>
    simp only [hr] at hx
    show Calls _ _ _ w (ERet w g A c T n (PR.bad k code))
    have HX := Aside0.mk hx
    clear hx hr h hj hsub hone hcell
    go_enter Tryd.func63, Tryd.ntmps63
    go_wp2_with (go_at_call 63; refine (HX.out _ (HP.out.keep (by (repeat (first | (with_reducible assumption) | (with_reducible exact Only.refl _ _) | (with_reducible refine Only.allocs ?_ _) | (with_reducible refine Only.drews ?_))))) (HJ.out.keep (by (repeat (first | (with_reducible assumption) | (with_reducible exact Only.refl _ _) | (with_reducible refine Only.allocs ?_ _) | (with_reducible refine Only.drews ?_)))))).mono ?_; rintro e w2 ⟨rfl, o2⟩)
    exact ⟨rfl, rfl, Only.trans (by (repeat (first | (with_reducible assumption) | (with_reducible exact Only.refl _ _) | (with_reducible refine Only.allocs ?_ _) | (with_reducible refine Only.drews ?_)))) o2 (fun _ h => .inl h)⟩
  | ok a0 j0 =>
    have hj0 := hon i a0 j0 hr
    simp only [hr] at hx
    have HX := Aside0.mk hx
    have hb1 : ∀ W, Only (w.alloc (.cells zT 28)) W [g] → W.heap[w.heap.size]? = some (.cells zT 28 (0, 0)) := fun W hW => (hW.block _ (by simp) (by simp; omega)).trans (heap_alloc_new w _)
    have HB1 := Aside0.mk hb1
    clear hx hr h hj hsub hone hcell hb1
    show Calls _ _ _ w (ERet w g A c T n (chainS T sub sSums (T.length + 1) j0 a0))
    obtain ⟨R, hR⟩ : ∃ R, R = chainS T sub sSums (T.length + 1) j0 a0 := ⟨_, rfl⟩
    rw [← hR]
    have HR := Aside0.mk hR
    clear hR
    go_enter Tryd.func63, Tryd.ntmps63
    go_wp2_with (go_at_call 63; refine (HX.out _ (HP.out.keep (by (repeat (first | (with_reducible assumption) | (with_reducible exact Only.refl _ _) | (with_reducible refine Only.allocs ?_ _) | (with_reducible refine Only.drews ?_))))) (HJ.out.keep (by (repeat (first | (with_reducible assumption) | (with_reducible exact Only.refl _ _) | (with_reducible refine Only.allocs ?_ _) | (with_reducible refine Only.drews ?_)))))).mono ?_; rintro e w2 ⟨u2, rfl, htv2, hp2, o2⟩; obtain ⟨kd2, s2, n2, A32, n32, c32, A42, n42, c42, rfl⟩ := htv2.five; have q2 : Only w w2 [g] := Only.trans (by (repeat (first | (with_reducible assumption) | (with_reducible exact Only.refl _ _) | (with_reducible refine Only.allocs ?_ _) | (with_reducible refine Only.drews ?_)))) o2 (fun _ h => .inl h); have HP2 := Aside0.mk hp2; have HTV2 := Aside0.mk htv2; have hb2 := HB1.out w2 o2; have hz2 : w.heap.size + 1 ≤ w2.heap.size := (by have := o2.size; simpa using this); have HB2 := Aside0.mk hb2; have HQ2 := Aside0.mk q2; clear htv2 hp2 o2 hb2 q2)
    obtain ⟨w3, hw3⟩ : ∃ w3, w3 = w2.alloc (.cells #[.int .i64 kd2, .string s2, .int .i64 n2, .slice A32 n32 c32, .slice A42 n42 c42] 28) := ⟨_, rfl⟩
    rw [← hw3]
    have o23 : Only w2 w3 [] := by rw [hw3]; exact Only.alloc w2 _ []
    have hl3 : w3.heap[w2.heap.size]? = some (.cells #[.int .i64 kd2, .string s2, .int .i64 n2, .slice A32 n32 c32, .slice A42 n42 c42] 28 (0, 0)) := by rw [hw3]; exact heap_alloc_new w2 _
    have hp3 := HP2.out.keep o23
    have q3 : Only w w3 [g] := HQ2.out.trans o23 (by simp)
    have hj3 := HJ.out.keep q3
    have hb3 := (o23.block _ (by omega) (by simp)).trans HB2.out
    have ht3 := TV_move (w' := w3) (Q := fun k => w.heap.size + 1 ≤ k ∧ k ≠ w2.heap.size) (fun k hk hP => ⟨o23.block k hk (by simp), by simp at hP; omega, by omega⟩) a0 _ HTV2.out
    obtain ⟨x0, x1, x2⟩ := HCELL.out w3 hj3
    have hgl3 := hp3.g_lt
    have hz3 : w2.heap.size < w3.heap.size := (Array.getElem?_eq_some_iff.1 hl3).1
    have HP3 := Aside0.mk hp3
    have HQ3 := Aside0.mk q3
    have HJ3 := Aside0.mk hj3
    have HB3 := Aside0.mk hb3
    have HT3 := Aside0.mk ht3
    have HL3 := Aside0.mk hl3
    clear hw3 o23 hl3 hp3 q3 hj3 hb3 ht3
    go_quiet ((go_at_call 65; exact Calls.quiet_of (HONE.out _ _ (HP3.out.keep ((Dr.refl w3).more _ |>.only [])) (HJ3.out.keep ((Dr.refl w3).more _ |>.only _)))))
    have hdr : Dr w3 (w3.drewN nq) := (Dr.refl w3).more _
    have HDR := Aside0.mk hdr
    obtain ⟨w3', hw3'⟩ : ∃ w3', w3' = w3.drewN nq := ⟨_, rfl⟩
    rw [← hw3'] at HDR
    rw [← hw3']
    clear hw3' hdr
    have hP3 := HP3.out.keep (HDR.out.only [])
    have hL3 := (HDR.out.only []).block _ hz3 (by simp) |>.trans HL3.out
    have hT3 := TV_move (w' := w3') (Q := fun k => w.heap.size + 1 ≤ k ∧ k ≠ w2.heap.size) (fun k hk hP => ⟨(HDR.out.only []).block k hk (by simp), hP⟩) a0 _ HT3.out
    have hQ3 := HQ3.out.trans (HDR.out.only []) (by simp)
    have hB3 := (HDR.out.only []).block _ (Nat.lt_trans (by omega) hz3) (by simp) |>.trans HB3.out
    have S0 := Aside0.mk (And.intro hP3 (And.intro hL3 (And.intro hT3 (And.intro hQ3 hB3))))
    clear hP3 hL3 hT3 hQ3 hB3 x0 x1 x2
    clear HP3 HL3 HT3 HQ3 HB3
    go_wp2_with fail
    go_loopg [7] (T.length + 1) (fun gk v7 wr => ∃ (i' : Nat) (a : GTree) (u : V5), T.length < gk + i' ∧ i' ≤ T.length ∧ v7 = .string ((oneS T i' sSums).getD ⟨#[]⟩) ∧ Aside0 (PAt wr g A c T i' n ∧ wr.heap[w2.heap.size]? = some (.cells #[u.a, u.b, u.c, u.d, u.e] 28 (0, 0)) ∧ TV wr (fun k => w.heap.size + 1 ≤ k ∧ k ≠ w2.heap.size) a u ∧ Only w wr [g] ∧ wr.heap[w.heap.size]? = some (.cells zT 28 (0, 0))) ∧ Aside0 (R = chainS T sub sSums gk i' a))
    case atStart => exact ⟨j0, a0, ⟨.int .i64 kd2, .string s2, .int .i64 n2, .slice A32 n32 c32, .slice A42 n42 c42⟩, by omega, hj0.2, rfl, S0, HR⟩
    case round =>
      obtain ⟨i', a, u, hf, hi', rfl, HS, HEQ⟩ := hrel
      obtain ⟨gf, rfl⟩ : ∃ gf, gk = gf + 1 := ⟨gk - 1, by omega⟩
      obtain ⟨hPr, hLr, hTr, hQr, hBr⟩ := HS.out
      obtain ⟨kdr, sr, nr, A3r, n3r, c3r, A4r, n4r, c4r, rfl⟩ := hTr.five
      cases ho : oneS T i' sSums with
      | none =>
        have e1 : R = .ok a i' := by
          rw [HEQ.out, chainS, ho]
        obtain ⟨y0, y1, y2, y3, y4, yf0, yf1, yf2, yf3, yf4⟩ := blk5 hBr
        obtain ⟨v0, v1, v2, v3, v4, _⟩ := blk5 hLr
        have HE1 := Aside0.mk e1
        have hlr : w2.heap.size < wr.heap.size := (Array.getElem?_eq_some_iff.1 hLr).1
        simp only [Option.getD_none]
        clear hPr hLr hTr hQr hBr ho e1
        go_wp2_with fail
        obtain ⟨hPr, hLr, hTr, hQr, hBr⟩ := HS.out
        obtain ⟨k1, k2, k3, k4⟩ := fin_step HP.out hPr hQr (.int .i64 kdr) (.string sr) (.int .i64 nr) (.slice A3r n3r c3r) (.slice A4r n4r c4r) hBr (TV_move (Q := fun k => w.heap.size + 1 ≤ k) (fun k hk hP => ⟨rfl, hP.1⟩) a _ hTr) (Nat.lt_succ_self _) _ (Only.refl _ [])
        obtain ⟨f0, f1, f2, f3, f4, _⟩ := blk5 k4
        refine bodyPost_ret (v := .agg #[.int .i64 kdr, .string sr, .int .i64 nr, .slice A3r n3r c3r, .slice A4r n4r c4r]) (by simp [results, Tryd.results63, go_sem, f0, f1, f2, f3, f4]) rfl ?_
        rw [HE1.out]
        exact ⟨_, rfl, k1, k2, k3⟩
      | some s =>
        simp only [Option.getD_some]
        have hmem : s ∈ sSums := List.mem_of_find?_eq_some ho
        have hne : s.toList.isEmpty = false := sign_ne s (by first | exact .inl hmem | exact .inr hmem)
        have hat : isAt T i' s = true := List.find?_some ho
        have hlt := isAt_lt hat
        obtain ⟨x0, x1, x2⟩ := HCELL.out wr (HJ.out.keep hQr)
        obtain ⟨p0, p1, p2, pf0, pf1, pf2⟩ := blk3 hPr.cell
        have hlr : w2.heap.size < wr.heap.size := (Array.getElem?_eq_some_iff.1 hLr).1
        have HLR := Aside0.mk hLr
        clear hPr hLr hTr hQr hBr hmem hat
        have hgr : g < wr.heap.size := HS.out.1.g_lt
        go_wp2_with fail
        obtain ⟨w4, hw4⟩ : ∃ w4, w4 = wr.setCell ⟨g, 1, none⟩ (.int .i64 ((i' : Int) + 1)) := ⟨_, rfl⟩
        rw [← hw4]
        obtain ⟨hPr, hLr, hTr, hQr, hBr⟩ := HS.out
        obtain ⟨hp4, o4⟩ := hPr.step (j := i' + 1) hlt
        rw [show (((i' + 1 : Nat) : Int)) = (i' : Int) + 1 by omega, ← hw4] at hp4 o4
        have hg2 : g ≠ w2.heap.size := by omega
        have hl4 := (o4.block _ hlr (by simp; omega)).trans hLr
        have hj4 := HJ.out.keep (hQr.trans o4 (fun _ h => .inl h))
        have hq4 : Only w w4 [g] := hQr.trans o4 (fun _ h => .inl h)
        have hw1 : IntKind.i64.wrap 1 = 1 := by decide
        have hall : ∀ W, Only w4 W [] → W.cell? ⟨w2.heap.size, 0, none⟩ = some (.int .i64 kdr) ∧ W.cell? ⟨w2.heap.size, 1, none⟩ = some (.string sr) ∧ W.cell? ⟨w2.heap.size, 2, none⟩ = some (.int .i64 nr) ∧ W.cell? ⟨w2.heap.size, 3, none⟩ = some (.slice A3r n3r c3r) ∧ W.cell? ⟨w2.heap.size, 4, none⟩ = some (.slice A4r n4r c4r) ∧ W.cell? ⟨bj, 0, none⟩ = some (.func (.func 63) #[] #[.pointer (some ⟨bp, 0, none⟩), .pointer (some ⟨bj, 0, none⟩), .pointer (some ⟨bv, 0, none⟩)]) := fun W hW => by
          obtain ⟨q0, q1, q2, q3, q4, _⟩ := blk5 ((hW.block _ (Array.getElem?_eq_some_iff.1 hl4).1 (by simp)).trans hl4)
          exact ⟨q0, q1, q2, q3, q4, (HCELL.out W (hj4.keep (hW.weaken (by simp)))).2.1⟩
        have HALL := Aside0.mk hall
        have HP4 := Aside0.mk hp4
        have HJ4 := Aside0.mk hj4
        have HQ4 := Aside0.mk hq4
        have HO4 := Aside0.mk o4
        have hx := fun W hW hj => HSUB.out W (i' + 1) hW hj
        cases hr : sub (i' + 1) with
        | bad k code =>
          have e1 : R = .bad k code := by
            rw [HEQ.out, chainS, ho]
            simp only [hr, PR.bind]
          simp only [hr] at hx
          have HX := Aside0.mk hx
          have HE1 := Aside0.mk e1
          obtain ⟨q0, q1, q2, q3, q4, q5⟩ := hall w4 (Only.refl _ _)
          clear hx hr e1 hall hp4 hj4 hq4 o4 hPr hLr hTr hQr hBr hw4 hl4 ho x0 x1 x2 p0 p1 p2 pf0 pf1 pf2
          refine wp_region_any (by kernel_rfl) ?_
          (try (change wpAny _ _ _ _ _ _ _ (World.drew _)))
          refine wpAny_take (i := 0) (v := ?_) rfl (by kernel_rfl) (by kernel_rfl) (by kernel_rfl) (fun _ _ _ h => h) (Or.inl ⟨by rfl, ?_⟩) ?_; rotate_left; (focus (intro _wq; go_simp; (first | done | (with_reducible rfl))))
          refine wpAny_take (i := 3) (v := ?_) rfl (by kernel_rfl) (by kernel_rfl) (by kernel_rfl) (fun _ _ _ h => h) (Or.inl ⟨by rfl, ?_⟩) ?_; rotate_left; (focus (intro _wq; go_simp; (first | done | (with_reducible rfl))))
          refine wpAny_take (i := 4) (v := ?_) rfl (by kernel_rfl) (by kernel_rfl) (by kernel_rfl) (fun _ _ _ h => h) (Or.inl ⟨by rfl, ?_⟩) ?_; rotate_left; (focus (intro _wq; go_simp; (first | done | (with_reducible rfl))))
          refine wpAny_ready (rs := [1, 2]) (by kernel_rfl) (by simp) ?_
          refine AllReady.cons rfl (fun K hK => ?_) ?_
          · go_simp
            refine hK _ _ ?_
            refine wpAny_ready (rs := [2]) (by kernel_rfl) (by simp) ?_
            refine AllReady.cons rfl (fun K2 hK2 => ?_) AllReady.nil
            go_simp
            refine hK2 _ _ ?_
            refine wpAny_ready (rs := [5]) (by kernel_rfl) (by simp) ?_
            refine AllReady.cons rfl (fun K3 hK3 => ?_) AllReady.nil
            go_simp
            (refine (HX.out _ (HP4.out.keep (by (repeat (first | (with_reducible assumption) | (with_reducible exact Only.refl _ _) | (with_reducible refine Only.allocs ?_ _) | (with_reducible refine Only.drews ?_))))) (HJ4.out.keep (by (repeat (first | (with_reducible assumption) | (with_reducible exact Only.refl _ _) | (with_reducible refine Only.allocs ?_ _) | (with_reducible refine Only.drews ?_)))))).mono ?_; rintro e w6 ⟨rfl, o6⟩; refine ⟨rfl, ?_⟩; rw [HE1.out]; exact ⟨rfl, HQ4.out.trans (Only.trans (by (repeat (first | (with_reducible assumption) | (with_reducible exact Only.refl _ _) | (with_reducible refine Only.allocs ?_ _) | (with_reducible refine Only.drews ?_)))) o6 (fun _ h => .inl h)) (fun _ h => .inl h)⟩)
          · refine AllReady.cons rfl (fun K hK => ?_) AllReady.nil
            go_simp
            refine hK _ _ ?_
            refine wpAny_ready (rs := [1, 5]) (by kernel_rfl) (by simp) ?_
            refine AllReady.cons rfl (fun K hK => ?_) ?_
            · go_simp
              refine hK _ _ ?_
              refine wpAny_ready (rs := [5]) (by kernel_rfl) (by simp) ?_
              refine AllReady.cons rfl (fun K2 hK2 => ?_) AllReady.nil
              go_simp
              (refine (HX.out _ (HP4.out.keep (by (repeat (first | (with_reducible assumption) | (with_reducible exact Only.refl _ _) | (with_reducible refine Only.allocs ?_ _) | (with_reducible refine Only.drews ?_))))) (HJ4.out.keep (by (repeat (first | (with_reducible assumption) | (with_reducible exact Only.refl _ _) | (with_reducible refine Only.allocs ?_ _) | (with_reducible refine Only.drews ?_)))))).mono ?_; rintro e w6 ⟨rfl, o6⟩; refine ⟨rfl, ?_⟩; rw [HE1.out]; exact ⟨rfl, HQ4.out.trans (Only.trans (by (repeat (first | (with_reducible assumption) | (with_reducible exact Only.refl _ _) | (with_reducible refine Only.allocs ?_ _) | (with_reducible refine Only.drews ?_)))) o6 (fun _ h => .inl h)) (fun _ h => .inl h)⟩)
            · refine AllReady.cons rfl (fun K hK => ?_) AllReady.nil
              go_simp
              (refine (HX.out _ (HP4.out.keep (by (repeat (first | (with_reducible assumption) | (with_reducible exact Only.refl _ _) | (with_reducible refine Only.allocs ?_ _) | (with_reducible refine Only.drews ?_))))) (HJ4.out.keep (by (repeat (first | (with_reducible assumption) | (with_reducible exact Only.refl _ _) | (with_reducible refine Only.allocs ?_ _) | (with_reducible refine Only.drews ?_)))))).mono ?_; rintro e w6 ⟨rfl, o6⟩; refine ⟨rfl, ?_⟩; rw [HE1.out]; exact ⟨rfl, HQ4.out.trans (Only.trans (by (repeat (first | (with_reducible assumption) | (with_reducible exact Only.refl _ _) | (with_reducible refine Only.allocs ?_ _) | (with_reducible refine Only.drews ?_)))) o6 (fun _ h => .inl h)) (fun _ h => .inl h)⟩)
        | ok b j =>
          have hj2 := hon (i' + 1) b j hr
          have e1 : R = chainS T sub sSums gf j (.node 8 s 0 [] [a, b]) := by
            rw [HEQ.out, chainS, ho]
            simp only [hr, PR.bind]
          simp only [hr] at hx
          have HX := Aside0.mk hx
          have HE1 := Aside0.mk e1
          have ht4 := TV_move (w' := w4) (Q := fun k => w.heap.size + 1 ≤ k ∧ k ≠ w2.heap.size) (fun k hk hP => ⟨o4.block k hk (by simp; omega), hP⟩) a _ hTr
          have HT4 := Aside0.mk ht4
          have HL4 := Aside0.mk hl4
          have hb4 := (o4.block _ (by omega) (by simp; omega)).trans hBr
          have HB4 := Aside0.mk hb4
          have hz4 : wr.heap.size ≤ w4.heap.size := o4.size
          clear hx hr e1 hall hp4 hj4 hq4 o4 hPr hLr hTr hQr hBr hw4 hl4 ho x0 x1 x2 p0 p1 p2 pf0 pf1 pf2 ht4 hb4
          obtain ⟨q0, q1, q2, q3, q4, _, _, _, _, _⟩ := blk5 HL4.out
          have q5 := (HALL.out w4 (Only.refl _ _)).2.2.2.2.2
          go_region_with (first
            | (go_at_call 63; refine (HX.out _ (HP4.out.keep (by (repeat (first | (with_reducible assumption) | (with_reducible exact Only.refl _ _) | (with_reducible refine Only.allocs ?_ _) | (with_reducible refine Only.drews ?_))))) (HJ4.out.keep (by (repeat (first | (with_reducible assumption) | (with_reducible exact Only.refl _ _) | (with_reducible refine Only.allocs ?_ _) | (with_reducible refine Only.drews ?_)))))).mono ?_; rintro e w6 ⟨u6, rfl, htv6, hp6, o6⟩; obtain ⟨kd6, s6, n6, A36, n36, c36, A46, n46, c46, rfl⟩ := htv6.five; have o46 : Only w4 w6 [g] := Only.trans (by (repeat (first | (with_reducible assumption) | (with_reducible exact Only.refl _ _) | (with_reducible refine Only.allocs ?_ _) | (with_reducible refine Only.drews ?_)))) o6 (fun _ h => .inl h); have HP6 := Aside0.mk hp6; have HO46 := Aside0.mk o46; have hl6 := (o46.block _ (Array.getElem?_eq_some_iff.1 HL4.out).1 (by simp; omega)).trans HL4.out; obtain ⟨v0, v1, v2, v3, v4, _⟩ := blk5 hl6; have HL6 := Aside0.mk hl6; have HPS := Aside0.mk (pair_step2 (P := fun k => w.heap.size + 1 ≤ k ∧ k ≠ w2.heap.size) HT4.out o46 (by simp; omega) (TV_move (Q := fun k => w.heap.size + 1 ≤ k ∧ k ≠ w2.heap.size) (fun k _ hP => ⟨rfl, by have hP' : w4.heap.size ≤ k := hP; omega⟩) b _ htv6) (fun k hk => by have := o46.size; omega) 8 s); have hz6 : w4.heap.size ≤ w6.heap.size := o46.size; clear htv6 hp6 o6 o46 hl6)
            | (go_at_call 23; refine HPS.out.mono ?_; rintro e w7 ⟨u7, rfl, htv7, o7⟩; obtain ⟨kd7, s7, n7, A37, n37, c37, A47, n47, c47, rfl⟩ := htv7.five; have hl7 := (o7.block _ (Array.getElem?_eq_some_iff.1 HL6.out).1 (by simp)).trans HL6.out; obtain ⟨y0, y1, y2, y3, y4, yf0, yf1, yf2, yf3, yf4⟩ := blk5 hl7; have hlr7 : w2.heap.size < w7.heap.size := (Array.getElem?_eq_some_iff.1 hl7).1; have HTV7 := Aside0.mk htv7; have HL7 := Aside0.mk hl7; have HO7 := Aside0.mk o7; clear htv7 hl7 o7))
          all_goals
            obtain ⟨w8, hw8⟩ : ∃ w8, w8 = (((((w7.setCell ⟨w2.heap.size, 0, none⟩ (.int .i64 kd7)).setCell ⟨w2.heap.size, 1, none⟩ (.string s7)).setCell ⟨w2.heap.size, 2, none⟩ (.int .i64 n7)).setCell ⟨w2.heap.size, 3, none⟩ (.slice A37 n37 c37)).setCell ⟨w2.heap.size, 4, none⟩ (.slice A47 n47 c47)) := ⟨_, rfl⟩
            rw [← hw8]
            have o78 : Only w7 w8 [w2.heap.size] := by rw [hw8]; exact Only.set5 w7 w2.heap.size _ _ _ _ _ _ (by simp)
            have hl8 : w8.heap[w2.heap.size]? = some (.cells #[.int .i64 kd7, .string s7, .int .i64 n7, .slice A37 n37 c37, .slice A47 n47 c47] 28 (0, 0)) := by rw [hw8]; exact set5_heap HL7.out _ _ _ _ _
            clear hw8
            have hz67 : w6.heap.size ≤ w7.heap.size := HO7.out.size
            have hq8 : Only w w8 [g] := ((HQ4.out.trans HO46.out (fun _ h => .inl h)).trans HO7.out (by simp)).trans o78 (fun k hk => .inr (by simp at hk; omega))
            have hp8 : PAt w8 g A c T j n := HP.out.goes hq8 ((o78.block g (by omega) (by simp; omega)).trans (HP6.out.keep HO7.out).cell) hj2.2 HP.out.hn
            have ht8 := TV_move (w' := w8) (Q := fun k => w.heap.size + 1 ≤ k ∧ k ≠ w2.heap.size) (fun k hk hP => ⟨o78.block k hk (by simp; omega), hP⟩) _ _ HTV7.out
            have hb8 : w8.heap[w.heap.size]? = some (.cells zT 28 (0, 0)) := (o78.block _ (by omega) (by simp; omega)).trans ((HO7.out.block _ (by omega) (by simp)).trans ((HO46.out.block _ (by omega) (by simp; omega)).trans HB4.out))
            have hj8 := HJ.out.keep hq8
            obtain ⟨x0, x1, x2⟩ := HCELL.out w8 hj8
            have hz8 : w2.heap.size < w8.heap.size := (Array.getElem?_eq_some_iff.1 hl8).1
            have HP8 := Aside0.mk hp8
            have HJ8 := Aside0.mk hj8
            have HH8 := Aside0.mk (And.intro hl8 (And.intro ht8 (And.intro hq8 hb8)))
            clear o78 hl8 hp8 hj8 ht8 hb8 hq8 q0 q1 q2 q3 q4 q5 v0 v1 v2 v3 v4 y0 y1 y2 y3 y4 yf0 yf1 yf2 yf3 yf4
            go_wp2_with fail
            go_quiet ((go_at_call 65; exact Calls.quiet_of (HONE.out _ _ (HP8.out.keep ((Dr.refl w8).more _ |>.only [])) (HJ8.out.keep ((Dr.refl w8).more _ |>.only _)))))
            go_wp2_with fail
            have hdr : Dr w8 (w8.drewN nq) := (Dr.refl w8).more _
            obtain ⟨hl8, ht8, hq8, hb8⟩ := HH8.out
            have hP8 := HP8.out.keep (hdr.only [])
            have hL8 := (hdr.only []).block _ hz8 (by simp) |>.trans hl8
            have hT8 := TV_move (w' := w8.drewN nq) (Q := fun k => w.heap.size + 1 ≤ k ∧ k ≠ w2.heap.size) (fun k hk hP => ⟨(hdr.only []).block k hk (by simp), hP⟩) _ _ ht8
            have hQ8 := hq8.trans (hdr.only []) (by simp)
            have hB8 := (hdr.only []).block _ (by omega) (by simp) |>.trans hb8
            have S8 := Aside0.mk (And.intro hP8 (And.intro hL8 (And.intro hT8 (And.intro hQ8 hB8))))
            clear hl8 ht8 hq8 hb8 hP8 hL8 hT8 hQ8 hB8 hdr
            go_roundg gf
            case measure => omega
            case rel => exact ⟨j, .node 8 s 0 [] [a, b], ⟨.int .i64 kd7, .string s7, .int .i64 n7, .slice A37 n37 c37, .slice A47 n47 c47⟩, by omega, hj2.2, rfl, S8, HE1⟩
end Go.Proofs.YtejidddjkngoiaaDoor
