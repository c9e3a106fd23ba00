/- gram: within, for each function that is handed to it. -/
import Derived.Test.YtejidddjkngoiaaDoorGmG
namespace Go.Proofs.YtejidddjkngoiaaDoor
open Go.RowKit
set_option linter.all false
set_option maxHeartbeats 4000000
set_option maxRecDepth 100000

def wiS (n i : Nat) (r : PR GTree) : PR GTree := match n with
  | 0 => .bad i 161
  | _ + 1 => r
theorem PAt.rise {w : World} {g : Nat} {A : Option Addr} {c : Nat} {T : List GT} {i m : Nat} (h : PAt w g A c T i m) (hm : m + 1 ≤ 40) : PAt (w.setCell ⟨g, 2, none⟩ (.int .i64 (40 - (m : Int) - 1))) g A c T i (m + 1) ∧ Only w (w.setCell ⟨g, 2, none⟩ (.int .i64 (40 - (m : Int) - 1))) [g] := by
  have o1 := Only.setCell w ⟨g, 2, none⟩ (.int .i64 (40 - (m : Int) - 1))
  refine ⟨h.goes o1 ?_ h.hi hm, o1⟩
  rw [heap_setCell h.cell 2]
  simp
  omega
/-- The result is laid into the call's first block, and handed back. -/
theorem fin_step {w w3 : World} {g : Nat} {A : Option Addr} {c : Nat} {T : List GT} {i0 n0 j m s : Nat} (hp0 : PAt w g A c T i0 n0) (hp3 : PAt w3 g A c T j m) (o3 : Only w w3 [g]) (v0 v1 v2 v3 v4 : Value) {a0 a1 a2 a3 a4 : Value} (hb : w3.heap[w.heap.size]? = some (.cells #[a0, a1, a2, a3, a4] 28 (0, 0))) {t : GTree} {u : V5} (htv : TV w3 (fun k => s ≤ k) t u) (hs : w.heap.size < s) :
    ∀ W, Only (((((w3.setCell ⟨w.heap.size, 0, none⟩ v0).setCell ⟨w.heap.size, 1, none⟩ v1).setCell ⟨w.heap.size, 2, none⟩ v2).setCell ⟨w.heap.size, 3, none⟩ v3).setCell ⟨w.heap.size, 4, none⟩ v4) W [] → TV W (fun k => w.heap.size ≤ k) t u ∧ PAt W g A c T j m ∧ Only w W [g] ∧ W.heap[w.heap.size]? = some (.cells #[v0, v1, v2, v3, v4] 28 (0, 0)) := fun W hW => by
  have hgl := hp0.g_lt
  have o5 := (Only.set5 w3 w.heap.size v0 v1 v2 v3 v4 [w.heap.size] (by simp)).trans hW (by simp)
  have oF : Only w W [g] := o3.trans o5 (by simp)
  refine ⟨TV_move (fun k hk hP => ⟨o5.block k hk (by simp; omega), by omega⟩) t u htv, hp0.goes oF ((o5.block g hp3.g_lt (by simp; omega)).trans hp3.cell) hp3.hi hp3.hn, oF, ?_⟩
  have h5 := set5_heap hb v0 v1 v2 v3 v4
  exact (hW.block _ (Array.getElem?_eq_some_iff.1 h5).1 (by simp)).trans h5
theorem within_1 (a1 a2 : Value) (w : World) (g : Nat) (A : Option Addr) (c : Nat) (T : List GT) (i n : Nat) (r : PR GTree) (h : PAt w g A c T i n) (hlt : i < T.length) (hf : ∀ m, n = m + 1 → ∀ W, PAt W g A c T (i + 1) m → Only w W [g] → Calls Tryd.prog 75 #[a1, a2] W (ERet W g A c T m r)) : Calls Tryd.prog 74 #[.pointer (some ⟨g, 0, none⟩), .func (.func 75) #[] #[a1, a2]] w (ERet w g A c T n (wiS n i r)) := by
  have hgl := h.g_lt
  have HP := Aside0.mk h
  have hnn := h.hn
  have HLT := Aside0.mk hlt
  cases n with
  | zero =>
    have hs := fun W hW => sink_none W g A c T i hW
    have HS := Aside0.mk hs
    clear hs h hf
    go_enter Tryd.func74, Tryd.ntmps74
    go_wp2_with (go_at_call 55; refine (HS.out _ (HP.out.keep (by (repeat (first | (with_reducible assumption) | (with_reducible exact Only.refl _ _) | (with_reducible refine Only.allocs ?_ _) | (with_reducible refine Only.drews ?_)))))).mono ?_; rintro e w2 ⟨rfl, rfl⟩)
    exact ⟨rfl, rfl, Only.alloc w _ _⟩
  | succ m =>
    have hs := fun W hW => sink_some W g A c T i m hW HLT.out
    have HS := Aside0.mk hs
    have hf' := hf m rfl
    have e0 : wiS (m + 1) i r = r := rfl
    rw [e0]
    cases r with
    | bad k code =>
      have HF := Aside0.mk hf'
      clear hs h hf hf' e0
      go_enter Tryd.func74, Tryd.ntmps74
      go_wp2_with (first
        | (go_at_call 55; refine (HS.out _ (HP.out.keep (by (repeat (first | (with_reducible assumption) | (with_reducible exact Only.refl _ _) | (with_reducible refine Only.allocs ?_ _) | (with_reducible refine Only.drews ?_)))))).mono ?_; rintro e w2 ⟨rfl, hp2, o2⟩; have q2 : Only w w2 [g] := Only.trans (by (repeat (first | (with_reducible assumption) | (with_reducible exact Only.refl _ _) | (with_reducible refine Only.allocs ?_ _) | (with_reducible refine Only.drews ?_)))) o2 (fun _ h => .inl h); have HP2 := Aside0.mk hp2; clear hp2 o2)
        | (go_at_call 75; refine (HF.out w2 HP2.out q2).mono ?_; rintro e w3 ⟨rfl, o3⟩))
      exact ⟨rfl, rfl, q2.trans o3 (fun _ h => .inl h)⟩
    | ok t j =>
      have HF := Aside0.mk hf'
      have hb1 : ∀ W, Only (w.alloc (.cells zT 28)) W [g] → W.heap[w.heap.size]? = some (.cells zT 28 (0, 0)) := fun W hW => (hW.block _ (by simp) (by simp; omega)).trans (heap_alloc_new w _)
      have HB1 := Aside0.mk hb1
      clear hs h hf hf' e0 hb1
      go_enter Tryd.func74, Tryd.ntmps74
      go_wp2_with (first
        | (go_at_call 55; refine (HS.out _ (HP.out.keep (by (repeat (first | (with_reducible assumption) | (with_reducible exact Only.refl _ _) | (with_reducible refine Only.allocs ?_ _) | (with_reducible refine Only.drews ?_)))))).mono ?_; rintro e w2 ⟨rfl, hp2, o2⟩; have HO2 := Aside0.mk o2; have q2 : Only w w2 [g] := Only.trans (by (repeat (first | (with_reducible assumption) | (with_reducible exact Only.refl _ _) | (with_reducible refine Only.allocs ?_ _) | (with_reducible refine Only.drews ?_)))) o2 (fun _ h => .inl h); have HP2 := Aside0.mk hp2; clear hp2 o2)
        | (go_at_call 75; refine (HF.out w2 HP2.out q2).mono ?_; rintro e w3 ⟨u3, rfl, htv3, hp3, o3⟩; obtain ⟨kd3, s3, n3, A33, n33, c33, A43, n43, c43, rfl⟩ := htv3.five; have HTV3 := Aside0.mk htv3; have HP3 := Aside0.mk hp3; have HO3 := Aside0.mk o3; obtain ⟨x0, x1, x2, xf0, xf1, xf2⟩ := blk3 hp3.cell; have hgl3 : g < w3.heap.size := hp3.g_lt; obtain ⟨y0, y1, y2, y3, y4, yf0, yf1, yf2, yf3, yf4⟩ := blk5 (HB1.out w3 (HO2.out.trans o3 (fun _ h => .inl h))); have hyl : w.heap.size < w3.heap.size := (Array.getElem?_eq_some_iff.1 (HB1.out w3 (HO2.out.trans o3 (fun _ h => .inl h)))).1; clear htv3 hp3 o3))
      obtain ⟨hp4, o4⟩ := HP3.out.rise hnn
      have hz2 : w.heap.size < w2.heap.size := by have := HO2.out.size; simp at this; omega
      have hb3 := HB1.out w3 (HO2.out.trans HO3.out (fun _ h => .inl h))
      have hk := fin_step HP.out hp4 ((q2.trans HO3.out (fun _ h => .inl h)).trans o4 (fun _ h => .inl h)) (.int .i64 kd3) (.string s3) (.int .i64 n3) (.slice A33 n33 c33) (.slice A43 n43 c43) ((o4.block _ (Array.getElem?_eq_some_iff.1 hb3).1 (by simp; omega)).trans hb3) (TV_move (Q := fun k => w2.heap.size ≤ k) (fun k hk hP => ⟨o4.block k hk (by simp; omega), hP⟩) t _ HTV3.out) hz2 _ (Only.alloc _ (.cells #[.int .i64 kd3, .string s3, .int .i64 n3, .slice A33 n33 c33, .slice A43 n43 c43] 28) [])
      obtain ⟨k1, k2, k3, k4⟩ := hk
      obtain ⟨f0, f1, f2, f3, f4, _⟩ := blk5 k4
      refine bodyPost_ret (v := .agg #[.int .i64 kd3, .string s3, .int .i64 n3, .slice A33 n33 c33, .slice A43 n43 c43]) (by simp [results, Tryd.results74, go_sem, f0, f1, f2, f3, f4]) rfl ?_
      exact ⟨_, rfl, k1, k2, k3⟩
theorem within_2 (a1 : Value) (w : World) (g : Nat) (A : Option Addr) (c : Nat) (T : List GT) (i n : Nat) (r : PR GTree) (h : PAt w g A c T i n) (hlt : i < T.length) (hf : ∀ m, n = m + 1 → ∀ W, PAt W g A c T (i + 1) m → Only w W [g] → Calls Tryd.prog 77 #[a1] W (ERet W g A c T m r)) : Calls Tryd.prog 74 #[.pointer (some ⟨g, 0, none⟩), .func (.func 77) #[] #[a1]] w (ERet w g A c T n (wiS n i r)) := by
  have hgl := h.g_lt
  have HP := Aside0.mk h
  have hnn := h.hn
  have HLT := Aside0.mk hlt
  cases n with
  | zero =>
    have hs := fun W hW => sink_none W g A c T i hW
    have HS := Aside0.mk hs
    clear hs h hf
    go_enter Tryd.func74, Tryd.ntmps74
    go_wp2_with (go_at_call 55; refine (HS.out _ (HP.out.keep (by (repeat (first | (with_reducible assumption) | (with_reducible exact Only.refl _ _) | (with_reducible refine Only.allocs ?_ _) | (with_reducible refine Only.drews ?_)))))).mono ?_; rintro e w2 ⟨rfl, rfl⟩)
    exact ⟨rfl, rfl, Only.alloc w _ _⟩
  | succ m =>
    have hs := fun W hW => sink_some W g A c T i m hW HLT.out
    have HS := Aside0.mk hs
    have hf' := hf m rfl
    have e0 : wiS (m + 1) i r = r := rfl
    rw [e0]
    cases r with
    | bad k code =>
      have HF := Aside0.mk hf'
      clear hs h hf hf' e0
      go_enter Tryd.func74, Tryd.ntmps74
      go_wp2_with (first
        | (go_at_call 55; refine (HS.out _ (HP.out.keep (by (repeat (first | (with_reducible assumption) | (with_reducible exact Only.refl _ _) | (with_reducible refine Only.allocs ?_ _) | (with_reducible refine Only.drews ?_)))))).mono ?_; rintro e w2 ⟨rfl, hp2, o2⟩; have q2 : Only w w2 [g] := Only.trans (by (repeat (first | (with_reducible assumption) | (with_reducible exact Only.refl _ _) | (with_reducible refine Only.allocs ?_ _) | (with_reducible refine Only.drews ?_)))) o2 (fun _ h => .inl h); have HP2 := Aside0.mk hp2; clear hp2 o2)
        | (go_at_call 77; refine (HF.out w2 HP2.out q2).mono ?_; rintro e w3 ⟨rfl, o3⟩))
      exact ⟨rfl, rfl, q2.trans o3 (fun _ h => .inl h)⟩
    | ok t j =>
      have HF := Aside0.mk hf'
      have hb1 : ∀ W, Only (w.alloc (.cells zT 28)) W [g] → W.heap[w.heap.size]? = some (.cells zT 28 (0, 0)) := fun W hW => (hW.block _ (by simp) (by simp; omega)).trans (heap_alloc_new w _)
      have HB1 := Aside0.mk hb1
      clear hs h hf hf' e0 hb1
      go_enter Tryd.func74, Tryd.ntmps74
      go_wp2_with (first
        | (go_at_call 55; refine (HS.out _ (HP.out.keep (by (repeat (first | (with_reducible assumption) | (with_reducible exact Only.refl _ _) | (with_reducible refine Only.allocs ?_ _) | (with_reducible refine Only.drews ?_)))))).mono ?_; rintro e w2 ⟨rfl, hp2, o2⟩; have HO2 := Aside0.mk o2; have q2 : Only w w2 [g] := Only.trans (by (repeat (first | (with_reducible assumption) | (with_reducible exact Only.refl _ _) | (with_reducible refine Only.allocs ?_ _) | (with_reducible refine Only.drews ?_)))) o2 (fun _ h => .inl h); have HP2 := Aside0.mk hp2; clear hp2 o2)
        | (go_at_call 77; refine (HF.out w2 HP2.out q2).mono ?_; rintro e w3 ⟨u3, rfl, htv3, hp3, o3⟩; obtain ⟨kd3, s3, n3, A33, n33, c33, A43, n43, c43, rfl⟩ := htv3.five; have HTV3 := Aside0.mk htv3; have HP3 := Aside0.mk hp3; have HO3 := Aside0.mk o3; obtain ⟨x0, x1, x2, xf0, xf1, xf2⟩ := blk3 hp3.cell; have hgl3 : g < w3.heap.size := hp3.g_lt; obtain ⟨y0, y1, y2, y3, y4, yf0, yf1, yf2, yf3, yf4⟩ := blk5 (HB1.out w3 (HO2.out.trans o3 (fun _ h => .inl h))); have hyl : w.heap.size < w3.heap.size := (Array.getElem?_eq_some_iff.1 (HB1.out w3 (HO2.out.trans o3 (fun _ h => .inl h)))).1; clear htv3 hp3 o3))
      obtain ⟨hp4, o4⟩ := HP3.out.rise hnn
      have hz2 : w.heap.size < w2.heap.size := by have := HO2.out.size; simp at this; omega
      have hb3 := HB1.out w3 (HO2.out.trans HO3.out (fun _ h => .inl h))
      have hk := fin_step HP.out hp4 ((q2.trans HO3.out (fun _ h => .inl h)).trans o4 (fun _ h => .inl h)) (.int .i64 kd3) (.string s3) (.int .i64 n3) (.slice A33 n33 c33) (.slice A43 n43 c43) ((o4.block _ (Array.getElem?_eq_some_iff.1 hb3).1 (by simp; omega)).trans hb3) (TV_move (Q := fun k => w2.heap.size ≤ k) (fun k hk hP => ⟨o4.block k hk (by simp; omega), hP⟩) t _ HTV3.out) hz2 _ (Only.alloc _ (.cells #[.int .i64 kd3, .string s3, .int .i64 n3, .slice A33 n33 c33, .slice A43 n43 c43] 28) [])
      obtain ⟨k1, k2, k3, k4⟩ := hk
      obtain ⟨f0, f1, f2, f3, f4, _⟩ := blk5 k4
      refine bodyPost_ret (v := .agg #[.int .i64 kd3, .string s3, .int .i64 n3, .slice A33 n33 c33, .slice A43 n43 c43]) (by simp [results, Tryd.results74, go_sem, f0, f1, f2, f3, f4]) rfl ?_
      exact ⟨_, rfl, k1, k2, k3⟩
theorem within_3 (a1 : Value) (w : World) (g : Nat) (A : Option Addr) (c : Nat) (T : List GT) (i n : Nat) (r : PR GTree) (h : PAt w g A c T i n) (hlt : i < T.length) (hf : ∀ m, n = m + 1 → ∀ W, PAt W g A c T (i + 1) m → Only w W [g] → Calls Tryd.prog 78 #[a1] W (ERet W g A c T m r)) : Calls Tryd.prog 74 #[.pointer (some ⟨g, 0, none⟩), .func (.func 78) #[] #[a1]] w (ERet w g A c T n (wiS n i r)) := by
  have hgl := h.g_lt
  have HP := Aside0.mk h
  have hnn := h.hn
  have HLT := Aside0.mk hlt
  cases n with
  | zero =>
    have hs := fun W hW => sink_none W g A c T i hW
    have HS := Aside0.mk hs
    clear hs h hf
    go_enter Tryd.func74, Tryd.ntmps74
    go_wp2_with (go_at_call 55; refine (HS.out _ (HP.out.keep (by (repeat (first | (with_reducible assumption) | (with_reducible exact Only.refl _ _) | (with_reducible refine Only.allocs ?_ _) | (with_reducible refine Only.drews ?_)))))).mono ?_; rintro e w2 ⟨rfl, rfl⟩)
    exact ⟨rfl, rfl, Only.alloc w _ _⟩
  | succ m =>
    have hs := fun W hW => sink_some W g A c T i m hW HLT.out
    have HS := Aside0.mk hs
    have hf' := hf m rfl
    have e0 : wiS (m + 1) i r = r := rfl
    rw [e0]
    cases r with
    | bad k code =>
      have HF := Aside0.mk hf'
      clear hs h hf hf' e0
      go_enter Tryd.func74, Tryd.ntmps74
      go_wp2_with (first
        | (go_at_call 55; refine (HS.out _ (HP.out.keep (by (repeat (first | (with_reducible assumption) | (with_reducible exact Only.refl _ _) | (with_reducible refine Only.allocs ?_ _) | (with_reducible refine Only.drews ?_)))))).mono ?_; rintro e w2 ⟨rfl, hp2, o2⟩; have q2 : Only w w2 [g] := Only.trans (by (repeat (first | (with_reducible assumption) | (with_reducible exact Only.refl _ _) | (with_reducible refine Only.allocs ?_ _) | (with_reducible refine Only.drews ?_)))) o2 (fun _ h => .inl h); have HP2 := Aside0.mk hp2; clear hp2 o2)
        | (go_at_call 78; refine (HF.out w2 HP2.out q2).mono ?_; rintro e w3 ⟨rfl, o3⟩))
      exact ⟨rfl, rfl, q2.trans o3 (fun _ h => .inl h)⟩
    | ok t j =>
      have HF := Aside0.mk hf'
      have hb1 : ∀ W, Only (w.alloc (.cells zT 28)) W [g] → W.heap[w.heap.size]? = some (.cells zT 28 (0, 0)) := fun W hW => (hW.block _ (by simp) (by simp; omega)).trans (heap_alloc_new w _)
      have HB1 := Aside0.mk hb1
      clear hs h hf hf' e0 hb1
      go_enter Tryd.func74, Tryd.ntmps74
      go_wp2_with (first
        | (go_at_call 55; refine (HS.out _ (HP.out.keep (by (repeat (first | (with_reducible assumption) | (with_reducible exact Only.refl _ _) | (with_reducible refine Only.allocs ?_ _) | (with_reducible refine Only.drews ?_)))))).mono ?_; rintro e w2 ⟨rfl, hp2, o2⟩; have HO2 := Aside0.mk o2; have q2 : Only w w2 [g] := Only.trans (by (repeat (first | (with_reducible assumption) | (with_reducible exact Only.refl _ _) | (with_reducible refine Only.allocs ?_ _) | (with_reducible refine Only.drews ?_)))) o2 (fun _ h => .inl h); have HP2 := Aside0.mk hp2; clear hp2 o2)
        | (go_at_call 78; refine (HF.out w2 HP2.out q2).mono ?_; rintro e w3 ⟨u3, rfl, htv3, hp3, o3⟩; obtain ⟨kd3, s3, n3, A33, n33, c33, A43, n43, c43, rfl⟩ := htv3.five; have HTV3 := Aside0.mk htv3; have HP3 := Aside0.mk hp3; have HO3 := Aside0.mk o3; obtain ⟨x0, x1, x2, xf0, xf1, xf2⟩ := blk3 hp3.cell; have hgl3 : g < w3.heap.size := hp3.g_lt; obtain ⟨y0, y1, y2, y3, y4, yf0, yf1, yf2, yf3, yf4⟩ := blk5 (HB1.out w3 (HO2.out.trans o3 (fun _ h => .inl h))); have hyl : w.heap.size < w3.heap.size := (Array.getElem?_eq_some_iff.1 (HB1.out w3 (HO2.out.trans o3 (fun _ h => .inl h)))).1; clear htv3 hp3 o3))
      obtain ⟨hp4, o4⟩ := HP3.out.rise hnn
      have hz2 : w.heap.size < w2.heap.size := by have := HO2.out.size; simp at this; omega
      have hb3 := HB1.out w3 (HO2.out.trans HO3.out (fun _ h => .inl h))
      have hk := fin_step HP.out hp4 ((q2.trans HO3.out (fun _ h => .inl h)).trans o4 (fun _ h => .inl h)) (.int .i64 kd3) (.string s3) (.int .i64 n3) (.slice A33 n33 c33) (.slice A43 n43 c43) ((o4.block _ (Array.getElem?_eq_some_iff.1 hb3).1 (by simp; omega)).trans hb3) (TV_move (Q := fun k => w2.heap.size ≤ k) (fun k hk hP => ⟨o4.block k hk (by simp; omega), hP⟩) t _ HTV3.out) hz2 _ (Only.alloc _ (.cells #[.int .i64 kd3, .string s3, .int .i64 n3, .slice A33 n33 c33, .slice A43 n43 c43] 28) [])
      obtain ⟨k1, k2, k3, k4⟩ := hk
      obtain ⟨f0, f1, f2, f3, f4, _⟩ := blk5 k4
      refine bodyPost_ret (v := .agg #[.int .i64 kd3, .string s3, .int .i64 n3, .slice A33 n33 c33, .slice A43 n43 c43]) (by simp [results, Tryd.results74, go_sem, f0, f1, f2, f3, f4]) rfl ?_
      exact ⟨_, rfl, k1, k2, k3⟩
theorem within_4 (a1 : Value) (w : World) (g : Nat) (A : Option Addr) (c : Nat) (T : List GT) (i n : Nat) (r : PR GTree) (h : PAt w g A c T i n) (hlt : i < T.length) (hf : ∀ m, n = m + 1 → ∀ W, PAt W g A c T (i + 1) m → Only w W [g] → Calls Tryd.prog 79 #[a1] W (ERet W g A c T m r)) : Calls Tryd.prog 74 #[.pointer (some ⟨g, 0, none⟩), .func (.func 79) #[] #[a1]] w (ERet w g A c T n (wiS n i r)) := by
  have hgl := h.g_lt
  have HP := Aside0.mk h
  have hnn := h.hn
  have HLT := Aside0.mk hlt
  cases n with
  | zero =>
    have hs := fun W hW => sink_none W g A c T i hW
    have HS := Aside0.mk hs
    clear hs h hf
    go_enter Tryd.func74, Tryd.ntmps74
    go_wp2_with (go_at_call 55; refine (HS.out _ (HP.out.keep (by (repeat (first | (with_reducible assumption) | (with_reducible exact Only.refl _ _) | (with_reducible refine Only.allocs ?_ _) | (with_reducible refine Only.drews ?_)))))).mono ?_; rintro e w2 ⟨rfl, rfl⟩)
    exact ⟨rfl, rfl, Only.alloc w _ _⟩
  | succ m =>
    have hs := fun W hW => sink_some W g A c T i m hW HLT.out
    have HS := Aside0.mk hs
    have hf' := hf m rfl
    have e0 : wiS (m + 1) i r = r := rfl
    rw [e0]
    cases r with
    | bad k code =>
      have HF := Aside0.mk hf'
      clear hs h hf hf' e0
      go_enter Tryd.func74, Tryd.ntmps74
      go_wp2_with (first
        | (go_at_call 55; refine (HS.out _ (HP.out.keep (by (repeat (first | (with_reducible assumption) | (with_reducible exact Only.refl _ _) | (with_reducible refine Only.allocs ?_ _) | (with_reducible refine Only.drews ?_)))))).mono ?_; rintro e w2 ⟨rfl, hp2, o2⟩; have q2 : Only w w2 [g] := Only.trans (by (repeat (first | (with_reducible assumption) | (with_reducible exact Only.refl _ _) | (with_reducible refine Only.allocs ?_ _) | (with_reducible refine Only.drews ?_)))) o2 (fun _ h => .inl h); have HP2 := Aside0.mk hp2; clear hp2 o2)
        | (go_at_call 79; refine (HF.out w2 HP2.out q2).mono ?_; rintro e w3 ⟨rfl, o3⟩))
      exact ⟨rfl, rfl, q2.trans o3 (fun _ h => .inl h)⟩
    | ok t j =>
      have HF := Aside0.mk hf'
      have hb1 : ∀ W, Only (w.alloc (.cells zT 28)) W [g] → W.heap[w.heap.size]? = some (.cells zT 28 (0, 0)) := fun W hW => (hW.block _ (by simp) (by simp; omega)).trans (heap_alloc_new w _)
      have HB1 := Aside0.mk hb1
      clear hs h hf hf' e0 hb1
      go_enter Tryd.func74, Tryd.ntmps74
      go_wp2_with (first
        | (go_at_call 55; refine (HS.out _ (HP.out.keep (by (repeat (first | (with_reducible assumption) | (with_reducible exact Only.refl _ _) | (with_reducible refine Only.allocs ?_ _) | (with_reducible refine Only.drews ?_)))))).mono ?_; rintro e w2 ⟨rfl, hp2, o2⟩; have HO2 := Aside0.mk o2; have q2 : Only w w2 [g] := Only.trans (by (repeat (first | (with_reducible assumption) | (with_reducible exact Only.refl _ _) | (with_reducible refine Only.allocs ?_ _) | (with_reducible refine Only.drews ?_)))) o2 (fun _ h => .inl h); have HP2 := Aside0.mk hp2; clear hp2 o2)
        | (go_at_call 79; refine (HF.out w2 HP2.out q2).mono ?_; rintro e w3 ⟨u3, rfl, htv3, hp3, o3⟩; obtain ⟨kd3, s3, n3, A33, n33, c33, A43, n43, c43, rfl⟩ := htv3.five; have HTV3 := Aside0.mk htv3; have HP3 := Aside0.mk hp3; have HO3 := Aside0.mk o3; obtain ⟨x0, x1, x2, xf0, xf1, xf2⟩ := blk3 hp3.cell; have hgl3 : g < w3.heap.size := hp3.g_lt; obtain ⟨y0, y1, y2, y3, y4, yf0, yf1, yf2, yf3, yf4⟩ := blk5 (HB1.out w3 (HO2.out.trans o3 (fun _ h => .inl h))); have hyl : w.heap.size < w3.heap.size := (Array.getElem?_eq_some_iff.1 (HB1.out w3 (HO2.out.trans o3 (fun _ h => .inl h)))).1; clear htv3 hp3 o3))
      obtain ⟨hp4, o4⟩ := HP3.out.rise hnn
      have hz2 : w.heap.size < w2.heap.size := by have := HO2.out.size; simp at this; omega
      have hb3 := HB1.out w3 (HO2.out.trans HO3.out (fun _ h => .inl h))
      have hk := fin_step HP.out hp4 ((q2.trans HO3.out (fun _ h => .inl h)).trans o4 (fun _ h => .inl h)) (.int .i64 kd3) (.string s3) (.int .i64 n3) (.slice A33 n33 c33) (.slice A43 n43 c43) ((o4.block _ (Array.getElem?_eq_some_iff.1 hb3).1 (by simp; omega)).trans hb3) (TV_move (Q := fun k => w2.heap.size ≤ k) (fun k hk hP => ⟨o4.block k hk (by simp; omega), hP⟩) t _ HTV3.out) hz2 _ (Only.alloc _ (.cells #[.int .i64 kd3, .string s3, .int .i64 n3, .slice A33 n33 c33, .slice A43 n43 c43] 28) [])
      obtain ⟨k1, k2, k3, k4⟩ := hk
      obtain ⟨f0, f1, f2, f3, f4, _⟩ := blk5 k4
      refine bodyPost_ret (v := .agg #[.int .i64 kd3, .string s3, .int .i64 n3, .slice A33 n33 c33, .slice A43 n43 c43]) (by simp [results, Tryd.results74, go_sem, f0, f1, f2, f3, f4]) rfl ?_
      exact ⟨_, rfl, k1, k2, k3⟩
theorem within_5 (a1 : Value) (w : World) (g : Nat) (A : Option Addr) (c : Nat) (T : List GT) (i n : Nat) (r : PR GTree) (h : PAt w g A c T i n) (hlt : i < T.length) (hf : ∀ m, n = m + 1 → ∀ W, PAt W g A c T (i + 1) m → Only w W [g] → Calls Tryd.prog 80 #[a1] W (ERet W g A c T m r)) : Calls Tryd.prog 74 #[.pointer (some ⟨g, 0, none⟩), .func (.func 80) #[a1] #[]] w (ERet w g A c T n (wiS n i r)) := by
  have hgl := h.g_lt
  have HP := Aside0.mk h
  have hnn := h.hn
  have HLT := Aside0.mk hlt
  cases n with
  | zero =>
    have hs := fun W hW => sink_none W g A c T i hW
    have HS := Aside0.mk hs
    clear hs h hf
    go_enter Tryd.func74, Tryd.ntmps74
    go_wp2_with (go_at_call 55; refine (HS.out _ (HP.out.keep (by (repeat (first | (with_reducible assumption) | (with_reducible exact Only.refl _ _) | (with_reducible refine Only.allocs ?_ _) | (with_reducible refine Only.drews ?_)))))).mono ?_; rintro e w2 ⟨rfl, rfl⟩)
    exact ⟨rfl, rfl, Only.alloc w _ _⟩
  | succ m =>
    have hs := fun W hW => sink_some W g A c T i m hW HLT.out
    have HS := Aside0.mk hs
    have hf' := hf m rfl
    have e0 : wiS (m + 1) i r = r := rfl
    rw [e0]
    cases r with
    | bad k code =>
      have HF := Aside0.mk hf'
      clear hs h hf hf' e0
      go_enter Tryd.func74, Tryd.ntmps74
      go_wp2_with (first
        | (go_at_call 55; refine (HS.out _ (HP.out.keep (by (repeat (first | (with_reducible assumption) | (with_reducible exact Only.refl _ _) | (with_reducible refine Only.allocs ?_ _) | (with_reducible refine Only.drews ?_)))))).mono ?_; rintro e w2 ⟨rfl, hp2, o2⟩; have q2 : Only w w2 [g] := Only.trans (by (repeat (first | (with_reducible assumption) | (with_reducible exact Only.refl _ _) | (with_reducible refine Only.allocs ?_ _) | (with_reducible refine Only.drews ?_)))) o2 (fun _ h => .inl h); have HP2 := Aside0.mk hp2; clear hp2 o2)
        | (go_at_call 80; refine (HF.out w2 HP2.out q2).mono ?_; rintro e w3 ⟨rfl, o3⟩))
      exact ⟨rfl, rfl, q2.trans o3 (fun _ h => .inl h)⟩
    | ok t j =>
      have HF := Aside0.mk hf'
      have hb1 : ∀ W, Only (w.alloc (.cells zT 28)) W [g] → W.heap[w.heap.size]? = some (.cells zT 28 (0, 0)) := fun W hW => (hW.block _ (by simp) (by simp; omega)).trans (heap_alloc_new w _)
      have HB1 := Aside0.mk hb1
      clear hs h hf hf' e0 hb1
      go_enter Tryd.func74, Tryd.ntmps74
      go_wp2_with (first
        | (go_at_call 55; refine (HS.out _ (HP.out.keep (by (repeat (first | (with_reducible assumption) | (with_reducible exact Only.refl _ _) | (with_reducible refine Only.allocs ?_ _) | (with_reducible refine Only.drews ?_)))))).mono ?_; rintro e w2 ⟨rfl, hp2, o2⟩; have HO2 := Aside0.mk o2; have q2 : Only w w2 [g] := Only.trans (by (repeat (first | (with_reducible assumption) | (with_reducible exact Only.refl _ _) | (with_reducible refine Only.allocs ?_ _) | (with_reducible refine Only.drews ?_)))) o2 (fun _ h => .inl h); have HP2 := Aside0.mk hp2; clear hp2 o2)
        | (go_at_call 80; refine (HF.out w2 HP2.out q2).mono ?_; rintro e w3 ⟨u3, rfl, htv3, hp3, o3⟩; obtain ⟨kd3, s3, n3, A33, n33, c33, A43, n43, c43, rfl⟩ := htv3.five; have HTV3 := Aside0.mk htv3; have HP3 := Aside0.mk hp3; have HO3 := Aside0.mk o3; obtain ⟨x0, x1, x2, xf0, xf1, xf2⟩ := blk3 hp3.cell; have hgl3 : g < w3.heap.size := hp3.g_lt; obtain ⟨y0, y1, y2, y3, y4, yf0, yf1, yf2, yf3, yf4⟩ := blk5 (HB1.out w3 (HO2.out.trans o3 (fun _ h => .inl h))); have hyl : w.heap.size < w3.heap.size := (Array.getElem?_eq_some_iff.1 (HB1.out w3 (HO2.out.trans o3 (fun _ h => .inl h)))).1; clear htv3 hp3 o3))
      obtain ⟨hp4, o4⟩ := HP3.out.rise hnn
      have hz2 : w.heap.size < w2.heap.size := by have := HO2.out.size; simp at this; omega
      have hb3 := HB1.out w3 (HO2.out.trans HO3.out (fun _ h => .inl h))
      have hk := fin_step HP.out hp4 ((q2.trans HO3.out (fun _ h => .inl h)).trans o4 (fun _ h => .inl h)) (.int .i64 kd3) (.string s3) (.int .i64 n3) (.slice A33 n33 c33) (.slice A43 n43 c43) ((o4.block _ (Array.getElem?_eq_some_iff.1 hb3).1 (by simp; omega)).trans hb3) (TV_move (Q := fun k => w2.heap.size ≤ k) (fun k hk hP => ⟨o4.block k hk (by simp; omega), hP⟩) t _ HTV3.out) hz2 _ (Only.alloc _ (.cells #[.int .i64 kd3, .string s3, .int .i64 n3, .slice A33 n33 c33, .slice A43 n43 c43] 28) [])
      obtain ⟨k1, k2, k3, k4⟩ := hk
      obtain ⟨f0, f1, f2, f3, f4, _⟩ := blk5 k4
      refine bodyPost_ret (v := .agg #[.int .i64 kd3, .string s3, .int .i64 n3, .slice A33 n33 c33, .slice A43 n43 c43]) (by simp [results, Tryd.results74, go_sem, f0, f1, f2, f3, f4]) rfl ?_
      exact ⟨_, rfl, k1, k2, k3⟩
theorem within_6 (a1 : Value) (w : World) (g : Nat) (A : Option Addr) (c : Nat) (T : List GT) (i n : Nat) (r : PR GTree) (h : PAt w g A c T i n) (hlt : i < T.length) (hf : ∀ m, n = m + 1 → ∀ W, PAt W g A c T (i + 1) m → Only w W [g] → Calls Tryd.prog 81 #[a1] W (ERet W g A c T m r)) : Calls Tryd.prog 74 #[.pointer (some ⟨g, 0, none⟩), .func (.func 81) #[a1] #[]] w (ERet w g A c T n (wiS n i r)) := by
  have hgl := h.g_lt
  have HP := Aside0.mk h
  have hnn := h.hn
  have HLT := Aside0.mk hlt
  cases n with
  | zero =>
    have hs := fun W hW => sink_none W g A c T i hW
    have HS := Aside0.mk hs
    clear hs h hf
    go_enter Tryd.func74, Tryd.ntmps74
    go_wp2_with (go_at_call 55; refine (HS.out _ (HP.out.keep (by (repeat (first | (with_reducible assumption) | (with_reducible exact Only.refl _ _) | (with_reducible refine Only.allocs ?_ _) | (with_reducible refine Only.drews ?_)))))).mono ?_; rintro e w2 ⟨rfl, rfl⟩)
    exact ⟨rfl, rfl, Only.alloc w _ _⟩
  | succ m =>
    have hs := fun W hW => sink_some W g A c T i m hW HLT.out
    have HS := Aside0.mk hs
    have hf' := hf m rfl
    have e0 : wiS (m + 1) i r = r := rfl
    rw [e0]
    cases r with
    | bad k code =>
      have HF := Aside0.mk hf'
      clear hs h hf hf' e0
      go_enter Tryd.func74, Tryd.ntmps74
      go_wp2_with (first
        | (go_at_call 55; refine (HS.out _ (HP.out.keep (by (repeat (first | (with_reducible assumption) | (with_reducible exact Only.refl _ _) | (with_reducible refine Only.allocs ?_ _) | (with_reducible refine Only.drews ?_)))))).mono ?_; rintro e w2 ⟨rfl, hp2, o2⟩; have q2 : Only w w2 [g] := Only.trans (by (repeat (first | (with_reducible assumption) | (with_reducible exact Only.refl _ _) | (with_reducible refine Only.allocs ?_ _) | (with_reducible refine Only.drews ?_)))) o2 (fun _ h => .inl h); have HP2 := Aside0.mk hp2; clear hp2 o2)
        | (go_at_call 81; refine (HF.out w2 HP2.out q2).mono ?_; rintro e w3 ⟨rfl, o3⟩))
      exact ⟨rfl, rfl, q2.trans o3 (fun _ h => .inl h)⟩
    | ok t j =>
      have HF := Aside0.mk hf'
      have hb1 : ∀ W, Only (w.alloc (.cells zT 28)) W [g] → W.heap[w.heap.size]? = some (.cells zT 28 (0, 0)) := fun W hW => (hW.block _ (by simp) (by simp; omega)).trans (heap_alloc_new w _)
      have HB1 := Aside0.mk hb1
      clear hs h hf hf' e0 hb1
      go_enter Tryd.func74, Tryd.ntmps74
      go_wp2_with (first
        | (go_at_call 55; refine (HS.out _ (HP.out.keep (by (repeat (first | (with_reducible assumption) | (with_reducible exact Only.refl _ _) | (with_reducible refine Only.allocs ?_ _) | (with_reducible refine Only.drews ?_)))))).mono ?_; rintro e w2 ⟨rfl, hp2, o2⟩; have HO2 := Aside0.mk o2; have q2 : Only w w2 [g] := Only.trans (by (repeat (first | (with_reducible assumption) | (with_reducible exact Only.refl _ _) | (with_reducible refine Only.allocs ?_ _) | (with_reducible refine Only.drews ?_)))) o2 (fun _ h => .inl h); have HP2 := Aside0.mk hp2; clear hp2 o2)
        | (go_at_call 81; refine (HF.out w2 HP2.out q2).mono ?_; rintro e w3 ⟨u3, rfl, htv3, hp3, o3⟩; obtain ⟨kd3, s3, n3, A33, n33, c33, A43, n43, c43, rfl⟩ := htv3.five; have HTV3 := Aside0.mk htv3; have HP3 := Aside0.mk hp3; have HO3 := Aside0.mk o3; obtain ⟨x0, x1, x2, xf0, xf1, xf2⟩ := blk3 hp3.cell; have hgl3 : g < w3.heap.size := hp3.g_lt; obtain ⟨y0, y1, y2, y3, y4, yf0, yf1, yf2, yf3, yf4⟩ := blk5 (HB1.out w3 (HO2.out.trans o3 (fun _ h => .inl h))); have hyl : w.heap.size < w3.heap.size := (Array.getElem?_eq_some_iff.1 (HB1.out w3 (HO2.out.trans o3 (fun _ h => .inl h)))).1; clear htv3 hp3 o3))
      obtain ⟨hp4, o4⟩ := HP3.out.rise hnn
      have hz2 : w.heap.size < w2.heap.size := by have := HO2.out.size; simp at this; omega
      have hb3 := HB1.out w3 (HO2.out.trans HO3.out (fun _ h => .inl h))
      have hk := fin_step HP.out hp4 ((q2.trans HO3.out (fun _ h => .inl h)).trans o4 (fun _ h => .inl h)) (.int .i64 kd3) (.string s3) (.int .i64 n3) (.slice A33 n33 c33) (.slice A43 n43 c43) ((o4.block _ (Array.getElem?_eq_some_iff.1 hb3).1 (by simp; omega)).trans hb3) (TV_move (Q := fun k => w2.heap.size ≤ k) (fun k hk hP => ⟨o4.block k hk (by simp; omega), hP⟩) t _ HTV3.out) hz2 _ (Only.alloc _ (.cells #[.int .i64 kd3, .string s3, .int .i64 n3, .slice A33 n33 c33, .slice A43 n43 c43] 28) [])
      obtain ⟨k1, k2, k3, k4⟩ := hk
      obtain ⟨f0, f1, f2, f3, f4, _⟩ := blk5 k4
      refine bodyPost_ret (v := .agg #[.int .i64 kd3, .string s3, .int .i64 n3, .slice A33 n33 c33, .slice A43 n43 c43]) (by simp [results, Tryd.results74, go_sem, f0, f1, f2, f3, f4]) rfl ?_
      exact ⟨_, rfl, k1, k2, k3⟩
end Go.Proofs.YtejidddjkngoiaaDoor
