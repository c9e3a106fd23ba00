/- gram: prim on an int, a variable, bytes. gram: prim on an atom. gram: prim on what opens; prim. -/
import Derived.Test.YtejidddjkngoiaaDoorGmM
namespace Go.Proofs.YtejidddjkngoiaaDoor
open Go.RowKit
set_option linter.all false

set_option maxHeartbeats 4000000
set_option maxRecDepth 100000

/-- The result is laid into one of the call's first blocks, and handed back. -/
theorem fin_at {w w3 : World} {g : Nat} {A : Option Addr} {c : Nat} {T : List GT} {i0 n0 j m s rb : Nat} (hp0 : PAt w g A c T i0 n0) (hp3 : PAt w3 g A c T j m) (o3 : Only w w3 [g]) (v0 v1 v2 v3 v4 : Value) {a0 a1 a2 a3 a4 : Value} (hb : w3.heap[rb]? = some (.cells #[a0, a1, a2, a3, a4] 28 (0, 0))) {t : GTree} {u : V5} (htv : TV w3 (fun k => s ≤ k) t u) (hr : w.heap.size ≤ rb) (hs : rb < s) :
    ∀ W, Only (((((w3.setCell ⟨rb, 0, none⟩ v0).setCell ⟨rb, 1, none⟩ v1).setCell ⟨rb, 2, none⟩ v2).setCell ⟨rb, 3, none⟩ v3).setCell ⟨rb, 4, none⟩ v4) W [] → TV W (fun k => w.heap.size ≤ k) t u ∧ PAt W g A c T j m ∧ Only w W [g] ∧ W.heap[rb]? = some (.cells #[v0, v1, v2, v3, v4] 28 (0, 0)) := fun W hW => by
  have hgl := hp0.g_lt
  have o5 := (Only.set5 w3 rb v0 v1 v2 v3 v4 [rb] (by simp)).trans hW (by simp)
  have oF : Only w W [g] := o3.trans o5 (by simp; omega)
  refine ⟨TV_move (fun k hk hP => ⟨o5.block k hk (by simp; omega), by omega⟩) t u htv, hp0.goes oF ((o5.block g hp3.g_lt (by simp; omega)).trans hp3.cell) hp3.hi hp3.hn, oF, ?_⟩
  have h5 := set5_heap hb v0 v1 v2 v3 v4
  exact (hW.block _ (Array.getElem?_eq_some_iff.1 h5).1 (by simp)).trans h5
/-- append of bytes to nil as a step of a region that draws. -/
theorem step_copy_bytes {ops : Array Oper} {o : Oper} {a : Act} {w : World} {K : Act → World → Prop} {Q : Exit → Act → World → Prop} {E : Prop} {b : List Int}
    (hg : o.guard = none) (s x : Operand) (hop : o.op = Op.call { callee := Callee.builtin Builtin.append, args := #[s, x], argTypes := #[25, 25] })
    (vx : Value) (hs : a.eval s = .slice none 0 0) (hx : a.eval x = vx) (hb : BytesAt w vx b) (hl : b.length ≤ 1000000000)
    (hK : ∀ A c w', BytesIn w' (fun k => w.heap.size ≤ k) (.slice A b.length c) b → Only w w' [] → K (a.put o.dst (.slice A b.length c)) w') :
    if Region.wanted o (yielded ops a.tmps) = true then Oper.wp Tryd.prog o a w K Q else E := by
  obtain ⟨A, c, w', hrun, h1, h2⟩ := run_copy_bytes hl o.type hb
  exact step_append_by hg s x _ _ hop _ _ hs hx _ _ hrun (hK A c w' h1 h2)
/-- What stands at prim's begin. -/
structure PrimIn (w w1 : World) (g : Nat) : Prop where
  o1 : Only w w1 []
  box : ∀ W, Only w1 W [g] → W.cell? ⟨w.heap.size, 0, none⟩ = some (.pointer (some ⟨g, 0, none⟩))
  boxAt : ∀ W, Only w1 W [g] → BoxAt W w.heap.size g
  res : ∀ W, Only w1 W [g] → W.heap[w.heap.size + 1]? = some (.cells zT 28 (0, 0))
  size : w1.heap.size = w.heap.size + 2
theorem primIn (w : World) (g : Nat) (hg : g < w.heap.size) : PrimIn w ((w.alloc (.cells #[.pointer (some ⟨g, 0, none⟩)] 57)).alloc (.cells zT 28)) g := by
  have h1 : ((w.alloc (.cells #[.pointer (some ⟨g, 0, none⟩)] 57)).alloc (.cells zT 28)).heap[w.heap.size]? = some (.cells #[.pointer (some ⟨g, 0, none⟩)] 57 (0, 0)) := ((Only.alloc _ _ []).block _ (by simp) (by simp)).trans (heap_alloc_new w _)
  have h2 : ((w.alloc (.cells #[.pointer (some ⟨g, 0, none⟩)] 57)).alloc (.cells zT 28)).heap[w.heap.size + 1]? = some (.cells zT 28 (0, 0)) := by
    have := heap_alloc_new (w.alloc (.cells #[.pointer (some ⟨g, 0, none⟩)] 57)) (.cells zT 28)
    rwa [size_alloc1] at this
  refine ⟨(Only.alloc w _ []).allocs _, fun W hW => ?_, fun W hW => ?_, fun W hW => ?_, by simp⟩
  · rw [Lib.cell_of_heap ((hW.block _ (by simp; omega) (by simp; omega)).trans h1)]
    rfl
  · exact (hW.block _ (by simp; omega) (by simp; omega)).trans h1
  · exact (hW.block _ (by simp) (by simp; omega)).trans h2
theorem prim_int {g : Nat} {A : Option Addr} {c : Nat} {T : List GT} {n i : Nat} {t : GT} (ht : T[i]? = some t) (hk : t.kd = 1) (w : World) (h : PAt w g A c T i n) : Calls Tryd.prog 71 #[.pointer (some ⟨g, 0, none⟩)] w (ERet w g A c T n (.ok (.node 1 gE t.n [] []) (i + 1))) := by
  have hgl := h.g_lt
  have HP := Aside0.mk h
  have hi : i < T.length := (List.getElem?_eq_some_iff.1 ht).1
  have hlen := h.len
  have hin := primIn w g hgl
  obtain ⟨w1, hw1⟩ : ∃ w1, w1 = (w.alloc (.cells #[.pointer (some ⟨g, 0, none⟩)] 57)).alloc (.cells zT 28) := ⟨_, rfl⟩
  rw [← hw1] at hin
  have hki := kind_c w1 g A c T i n (h.keep hin.o1)
  rw [show kindAt T i = 1 by simp [kindAt, ht, hk]] at hki
  have HIN := Aside0.mk hin
  have HK := Aside0.mk hki
  have HT := Aside0.mk ht
  clear hki hin h ht hk
  go_enter Tryd.func71, Tryd.ntmps71
  go_wp2_with (go_at_call 35; rw [← hw1]; clear hw1; refine HK.out.mono ?_; rintro e w2 ⟨rfl, d2⟩; have o2 := d2.only []; have hp2 := (HP.out.keep HIN.out.o1).keep o2; obtain ⟨x0, x1, x2, xf0, xf1, xf2⟩ := blk3 hp2.cell; have hx := HIN.out.box w2 (d2.only _); have hz2 : w.heap.size + 2 ≤ w2.heap.size := (by have := o2.size; have := HIN.out.size; omega); have HP2 := Aside0.mk hp2; have HD2 := Aside0.mk d2; clear o2 hp2 d2)
  obtain ⟨w3, hw3⟩ : ∃ w3, w3 = w2.setCell ⟨g, 1, none⟩ (.int .i64 ((i : Int) + 1)) := ⟨_, rfl⟩
  rw [← hw3]
  obtain ⟨hp3, o3⟩ := HP2.out.step (j := i + 1) hi
  rw [show (((i + 1 : Nat) : Int)) = (i : Int) + 1 by omega, ← hw3] at hp3 o3
  have o13 : Only w1 w3 [g] := (HD2.out.only [g]).trans o3 (fun _ h => .inl h)
  have o03 : Only w w3 [g] := (HIN.out.o1.weaken (by simp)).trans o13 (fun _ h => .inl h)
  obtain ⟨b, o, A3, c3, rfl, hbg, t0, t1, t2, t3, _, tb⟩ := HP.out.tok HT.out
  have hbw : b < w.heap.size := World.block_lt_of_cell? _ _ t0
  obtain ⟨x0, x1, x2, xf0, xf1, xf2⟩ := blk3 hp3.cell
  rw [show (((i + 1 : Nat) : Int)) = (i : Int) + 1 by omega] at x1
  have hx3 := HIN.out.box w3 o13
  have hr3 := HIN.out.res w3 o13
  obtain ⟨y0, y1, y2, y3, y4, yf0, yf1, yf2, yf3, yf4⟩ := blk5 hr3
  have hrl : w.heap.size + 1 < w3.heap.size := (Array.getElem?_eq_some_iff.1 hr3).1
  have HP3 := Aside0.mk hp3
  have HO3 := Aside0.mk o03
  have HR3 := Aside0.mk hr3
  have HTB := Aside0.mk tb
  have z0 : (i : Int) < (T.length : Int) := by omega
  have z1 : (0 : Int) ≤ (i : Int) := by omega
  obtain ⟨q, hq⟩ : ∃ q : Int, q = (i : Int) + 1 := ⟨_, rfl⟩
  rw [← hq] at x1 hw3
  have hwr : IntKind.i64.wrap (q - 1) = (i : Int) := by
    rw [hq, IntKind.wrap_i64]
    omega
  have HQ := Aside0.mk hq
  have hall : ∀ W, Only w3 W [w.heap.size + 1] → W.cell? ⟨w.heap.size, 0, none⟩ = some (.pointer (some ⟨g, 0, none⟩)) ∧ W.cell? ⟨g, 0, none⟩ = some (.slice (some ⟨b, o, none⟩) T.length c) ∧ W.cell? ⟨g, 1, none⟩ = some (.int .i64 q) ∧ W.cell? ⟨b, o + i * 5 + 2, none⟩ = some (.int .i64 t.n) := fun W hW => by
    have key : ∀ k off v, w3.cell? ⟨k, off, none⟩ = some v → k ≠ w.heap.size + 1 → W.cell? ⟨k, off, none⟩ = some v := fun k off v hv hk => (World.cell?_of_block (hW.block k (World.block_lt_of_cell? _ _ hv) (by simpa using hk))).trans hv
    exact ⟨key _ _ _ hx3 (by omega), key _ _ _ x0 (by omega), key _ _ _ x1 (by omega), key _ _ _ ((World.cell?_of_block (o03.block b hbw (by simpa using hbg))).trans t2) (by omega)⟩
  have HALL := Aside0.mk hall
  clear hw3 hq hp3 o3 o13 o03 hr3 x0 x1 x2 xf0 xf1 xf2 t0 t1 t2 t3 tb hx hx3 hall
  go_region_held3 (fun W => W.cell? ⟨w.heap.size, 0, none⟩ = some (.pointer (some ⟨g, 0, none⟩)) ∧ W.cell? ⟨g, 0, none⟩ = some (.slice (some ⟨b, o, none⟩) T.length c) ∧ W.cell? ⟨g, 1, none⟩ = some (.int .i64 q) ∧ W.cell? ⟨b, o + i * 5 + 2, none⟩ = some (.int .i64 t.n))
      (first | exact HALL.out _ (by (repeat (first | (with_reducible assumption) | (with_reducible exact Only.refl _ _) | (with_reducible refine Only.allocs ?_ _) | (with_reducible refine Only.drews ?_) | (with_reducible refine Only.setCells ?_ _ (by simp) _)))))
      (first
        | fail
        | fail)
  go_wp2_with fail
  obtain ⟨k1, k2, k3, k4⟩ := fin_at HP.out HP3.out HO3.out (.int .i64 1) (.string ⟨#[]⟩) (.int .i64 t.n) (.slice none 0 0) (.slice none 0 0) HR3.out (TV_node (kd := 1) (s := ⟨#[]⟩) (n := t.n) (BytesIn.nil _ (fun k => w.heap.size + 2 ≤ k)) (RT.nil _ _)) (Nat.le_succ _) (Nat.lt_succ_self _) _ ((Only.refl _ []).drews)
  obtain ⟨f0, f1, f2, f3, f4, _⟩ := blk5 k4
  refine bodyPost_ret (v := .agg #[.int .i64 1, .string ⟨#[]⟩, .int .i64 t.n, .slice none 0 0, .slice none 0 0]) (by simp [results, Tryd.results71, go_sem, f0, f1, f2, f3, f4]) rfl ?_
  exact ⟨_, rfl, k1, k2, k3⟩
theorem prim_var {g : Nat} {A : Option Addr} {c : Nat} {T : List GT} {n i : Nat} {t : GT} (ht : T[i]? = some t) (hk : t.kd = 3) (w : World) (h : PAt w g A c T i n) : Calls Tryd.prog 71 #[.pointer (some ⟨g, 0, none⟩)] w (ERet w g A c T n (.ok (.node 3 t.s 0 [] []) (i + 1))) := by
  have hgl := h.g_lt
  have HP := Aside0.mk h
  have hi : i < T.length := (List.getElem?_eq_some_iff.1 ht).1
  have hlen := h.len
  have hin := primIn w g hgl
  obtain ⟨w1, hw1⟩ : ∃ w1, w1 = (w.alloc (.cells #[.pointer (some ⟨g, 0, none⟩)] 57)).alloc (.cells zT 28) := ⟨_, rfl⟩
  rw [← hw1] at hin
  have hki := kind_c w1 g A c T i n (h.keep hin.o1)
  rw [show kindAt T i = 3 by simp [kindAt, ht, hk]] at hki
  have HIN := Aside0.mk hin
  have HK := Aside0.mk hki
  have HT := Aside0.mk ht
  clear hki hin h ht hk
  go_enter Tryd.func71, Tryd.ntmps71
  go_wp2_with (go_at_call 35; rw [← hw1]; clear hw1; refine HK.out.mono ?_; rintro e w2 ⟨rfl, d2⟩; have o2 := d2.only []; have hp2 := (HP.out.keep HIN.out.o1).keep o2; obtain ⟨x0, x1, x2, xf0, xf1, xf2⟩ := blk3 hp2.cell; have hx := HIN.out.box w2 (d2.only _); have hz2 : w.heap.size + 2 ≤ w2.heap.size := (by have := o2.size; have := HIN.out.size; omega); have HP2 := Aside0.mk hp2; have HD2 := Aside0.mk d2; clear o2 hp2 d2)
  obtain ⟨w3, hw3⟩ : ∃ w3, w3 = w2.setCell ⟨g, 1, none⟩ (.int .i64 ((i : Int) + 1)) := ⟨_, rfl⟩
  rw [← hw3]
  obtain ⟨hp3, o3⟩ := HP2.out.step (j := i + 1) hi
  rw [show (((i + 1 : Nat) : Int)) = (i : Int) + 1 by omega, ← hw3] at hp3 o3
  have o13 : Only w1 w3 [g] := (HD2.out.only [g]).trans o3 (fun _ h => .inl h)
  have o03 : Only w w3 [g] := (HIN.out.o1.weaken (by simp)).trans o13 (fun _ h => .inl h)
  obtain ⟨b, o, A3, c3, rfl, hbg, t0, t1, t2, t3, _, tb⟩ := HP.out.tok HT.out
  have hbw : b < w.heap.size := World.block_lt_of_cell? _ _ t0
  obtain ⟨x0, x1, x2, xf0, xf1, xf2⟩ := blk3 hp3.cell
  rw [show (((i + 1 : Nat) : Int)) = (i : Int) + 1 by omega] at x1
  have hx3 := HIN.out.box w3 o13
  have hr3 := HIN.out.res w3 o13
  obtain ⟨y0, y1, y2, y3, y4, yf0, yf1, yf2, yf3, yf4⟩ := blk5 hr3
  have hrl : w.heap.size + 1 < w3.heap.size := (Array.getElem?_eq_some_iff.1 hr3).1
  have HP3 := Aside0.mk hp3
  have HO3 := Aside0.mk o03
  have HR3 := Aside0.mk hr3
  have HTB := Aside0.mk tb
  have z0 : (i : Int) < (T.length : Int) := by omega
  have z1 : (0 : Int) ≤ (i : Int) := by omega
  obtain ⟨q, hq⟩ : ∃ q : Int, q = (i : Int) + 1 := ⟨_, rfl⟩
  rw [← hq] at x1 hw3
  have hwr : IntKind.i64.wrap (q - 1) = (i : Int) := by
    rw [hq, IntKind.wrap_i64]
    omega
  have HQ := Aside0.mk hq
  have hall : ∀ W, Only w3 W [w.heap.size + 1] → W.cell? ⟨w.heap.size, 0, none⟩ = some (.pointer (some ⟨g, 0, none⟩)) ∧ W.cell? ⟨g, 0, none⟩ = some (.slice (some ⟨b, o, none⟩) T.length c) ∧ W.cell? ⟨g, 1, none⟩ = some (.int .i64 q) ∧ W.cell? ⟨b, o + i * 5 + 1, none⟩ = some (.string t.s) := fun W hW => by
    have key : ∀ k off v, w3.cell? ⟨k, off, none⟩ = some v → k ≠ w.heap.size + 1 → W.cell? ⟨k, off, none⟩ = some v := fun k off v hv hk => (World.cell?_of_block (hW.block k (World.block_lt_of_cell? _ _ hv) (by simpa using hk))).trans hv
    exact ⟨key _ _ _ hx3 (by omega), key _ _ _ x0 (by omega), key _ _ _ x1 (by omega), key _ _ _ ((World.cell?_of_block (o03.block b hbw (by simpa using hbg))).trans t1) (by omega)⟩
  have HALL := Aside0.mk hall
  clear hw3 hq hp3 o3 o13 o03 hr3 x0 x1 x2 xf0 xf1 xf2 t0 t1 t2 t3 tb hx hx3 hall
  go_region_held3 (fun W => W.cell? ⟨w.heap.size, 0, none⟩ = some (.pointer (some ⟨g, 0, none⟩)) ∧ W.cell? ⟨g, 0, none⟩ = some (.slice (some ⟨b, o, none⟩) T.length c) ∧ W.cell? ⟨g, 1, none⟩ = some (.int .i64 q) ∧ W.cell? ⟨b, o + i * 5 + 1, none⟩ = some (.string t.s))
      (first | exact HALL.out _ (by (repeat (first | (with_reducible assumption) | (with_reducible exact Only.refl _ _) | (with_reducible refine Only.allocs ?_ _) | (with_reducible refine Only.drews ?_) | (with_reducible refine Only.setCells ?_ _ (by simp) _)))))
      (first
        | (go_at_call 23; refine (tree_c _ (fun k => w.heap.size + 2 ≤ k) 3 t.s (.slice none 0 0) [] (RT.nil _ _) (by simp)).mono ?_; rintro e w4 ⟨u4, rfl, htv4, o4⟩; obtain ⟨kd4, s4, n4, A34, n34, c34, A44, n44, c44, rfl⟩ := htv4.five; have q4 : Only w3 w4 [] := Only.trans (by (repeat (first | (with_reducible assumption) | (with_reducible exact Only.refl _ _) | (with_reducible refine Only.allocs ?_ _) | (with_reducible refine Only.drews ?_)))) o4 (by simp); have q5 : Only w3 w4 [w.heap.size + 1] := q4.weaken (by simp); have hr4 := (q4.block _ hrl (by simp)).trans HR3.out; have HR4 := Aside0.mk hr4; have HTV4 := Aside0.mk htv4; have HO4 := Aside0.mk q4; obtain ⟨y0, y1, y2, y3, y4, yf0, yf1, yf2, yf3, yf4⟩ := blk5 hr4; clear o4 htv4 hr4 q4)
        | fail)
  go_wp2_with fail
  obtain ⟨k1, k2, k3, k4⟩ := fin_at HP.out (HP3.out.keep HO4.out) (HO3.out.trans HO4.out (by simp)) (.int .i64 kd4) (.string s4) (.int .i64 n4) (.slice A34 n34 c34) (.slice A44 n44 c44) HR4.out (TV_move (Q := fun k => w.heap.size + 2 ≤ k) (fun k hk hP => ⟨rfl, by rcases hP with hP | hP <;> ((try simp at hP); omega)⟩) _ _ HTV4.out) (Nat.le_succ _) (Nat.lt_succ_self _) _ (by (repeat (first | (with_reducible assumption) | (with_reducible exact Only.refl _ _) | (with_reducible refine Only.allocs ?_ _) | (with_reducible refine Only.drews ?_))))
  obtain ⟨f0, f1, f2, f3, f4, _⟩ := blk5 k4
  refine bodyPost_ret (v := .agg #[.int .i64 kd4, .string s4, .int .i64 n4, .slice A34 n34 c34, .slice A44 n44 c44]) (by simp [results, Tryd.results71, go_sem, f0, f1, f2, f3, f4]) rfl ?_
  exact ⟨_, rfl, k1, k2, k3⟩
theorem prim_bytes {g : Nat} {A : Option Addr} {c : Nat} {T : List GT} {n i : Nat} {t : GT} (ht : T[i]? = some t) (hk : t.kd = 4) (w : World) (h : PAt w g A c T i n) : Calls Tryd.prog 71 #[.pointer (some ⟨g, 0, none⟩)] w (ERet w g A c T n (.ok (.node 4 gE 0 t.b []) (i + 1))) := by
  have hbl := h.toks.byte t (List.mem_of_getElem? ht)
  have hgl := h.g_lt
  have HP := Aside0.mk h
  have hi : i < T.length := (List.getElem?_eq_some_iff.1 ht).1
  have hlen := h.len
  have hin := primIn w g hgl
  obtain ⟨w1, hw1⟩ : ∃ w1, w1 = (w.alloc (.cells #[.pointer (some ⟨g, 0, none⟩)] 57)).alloc (.cells zT 28) := ⟨_, rfl⟩
  rw [← hw1] at hin
  have hki := kind_c w1 g A c T i n (h.keep hin.o1)
  rw [show kindAt T i = 4 by simp [kindAt, ht, hk]] at hki
  have HIN := Aside0.mk hin
  have HK := Aside0.mk hki
  have HT := Aside0.mk ht
  clear hki hin h ht hk
  go_enter Tryd.func71, Tryd.ntmps71
  go_wp2_with (go_at_call 35; rw [← hw1]; clear hw1; refine HK.out.mono ?_; rintro e w2 ⟨rfl, d2⟩; have o2 := d2.only []; have hp2 := (HP.out.keep HIN.out.o1).keep o2; obtain ⟨x0, x1, x2, xf0, xf1, xf2⟩ := blk3 hp2.cell; have hx := HIN.out.box w2 (d2.only _); have hz2 : w.heap.size + 2 ≤ w2.heap.size := (by have := o2.size; have := HIN.out.size; omega); have HP2 := Aside0.mk hp2; have HD2 := Aside0.mk d2; clear o2 hp2 d2)
  obtain ⟨w3, hw3⟩ : ∃ w3, w3 = w2.setCell ⟨g, 1, none⟩ (.int .i64 ((i : Int) + 1)) := ⟨_, rfl⟩
  rw [← hw3]
  obtain ⟨hp3, o3⟩ := HP2.out.step (j := i + 1) hi
  rw [show (((i + 1 : Nat) : Int)) = (i : Int) + 1 by omega, ← hw3] at hp3 o3
  have o13 : Only w1 w3 [g] := (HD2.out.only [g]).trans o3 (fun _ h => .inl h)
  have o03 : Only w w3 [g] := (HIN.out.o1.weaken (by simp)).trans o13 (fun _ h => .inl h)
  obtain ⟨b, o, A3, c3, rfl, hbg, t0, t1, t2, t3, _, tb⟩ := HP.out.tok HT.out
  have hbw : b < w.heap.size := World.block_lt_of_cell? _ _ t0
  obtain ⟨x0, x1, x2, xf0, xf1, xf2⟩ := blk3 hp3.cell
  rw [show (((i + 1 : Nat) : Int)) = (i : Int) + 1 by omega] at x1
  have hx3 := HIN.out.box w3 o13
  have hr3 := HIN.out.res w3 o13
  obtain ⟨y0, y1, y2, y3, y4, yf0, yf1, yf2, yf3, yf4⟩ := blk5 hr3
  have hrl : w.heap.size + 1 < w3.heap.size := (Array.getElem?_eq_some_iff.1 hr3).1
  have HP3 := Aside0.mk hp3
  have HO3 := Aside0.mk o03
  have HR3 := Aside0.mk hr3
  have HTB := Aside0.mk tb
  have z0 : (i : Int) < (T.length : Int) := by omega
  have z1 : (0 : Int) ≤ (i : Int) := by omega
  obtain ⟨q, hq⟩ : ∃ q : Int, q = (i : Int) + 1 := ⟨_, rfl⟩
  rw [← hq] at x1 hw3
  have hwr : IntKind.i64.wrap (q - 1) = (i : Int) := by
    rw [hq, IntKind.wrap_i64]
    omega
  have HQ := Aside0.mk hq
  have hall : ∀ W, Only w3 W [w.heap.size + 1] → W.cell? ⟨w.heap.size, 0, none⟩ = some (.pointer (some ⟨g, 0, none⟩)) ∧ W.cell? ⟨g, 0, none⟩ = some (.slice (some ⟨b, o, none⟩) T.length c) ∧ W.cell? ⟨g, 1, none⟩ = some (.int .i64 q) ∧ W.cell? ⟨b, o + i * 5 + 3, none⟩ = some (.slice A3 t.b.length c3) := fun W hW => by
    have key : ∀ k off v, w3.cell? ⟨k, off, none⟩ = some v → k ≠ w.heap.size + 1 → W.cell? ⟨k, off, none⟩ = some v := fun k off v hv hk => (World.cell?_of_block (hW.block k (World.block_lt_of_cell? _ _ hv) (by simpa using hk))).trans hv
    exact ⟨key _ _ _ hx3 (by omega), key _ _ _ x0 (by omega), key _ _ _ x1 (by omega), key _ _ _ ((World.cell?_of_block (o03.block b hbw (by simpa using hbg))).trans t3) (by omega)⟩
  have HALL := Aside0.mk hall
  clear hw3 hq hp3 o3 o13 o03 hr3 x0 x1 x2 xf0 xf1 xf2 t0 t1 t2 t3 tb hx hx3 hall
  have htb : ∀ W, Only w3 W [w.heap.size + 1] → BytesAt W (.slice A3 t.b.length c3) t.b := fun W hW => by
    have hw := HO3.out.trans hW (ks2 := [w.heap.size + 1]) (by simp)
    exact (HTB.out.move (Q := fun _ => True) (fun k hk hP => ⟨hw.block k hk (by simpa using hP), trivial⟩)).1
  have HTB2 := Aside0.mk htb
  clear htb
  go_region_held3 (fun W => W.cell? ⟨w.heap.size, 0, none⟩ = some (.pointer (some ⟨g, 0, none⟩)) ∧ W.cell? ⟨g, 0, none⟩ = some (.slice (some ⟨b, o, none⟩) T.length c) ∧ W.cell? ⟨g, 1, none⟩ = some (.int .i64 q) ∧ W.cell? ⟨b, o + i * 5 + 3, none⟩ = some (.slice A3 t.b.length c3))
      (first | exact HALL.out _ (by (repeat (first | (with_reducible assumption) | (with_reducible exact Only.refl _ _) | (with_reducible refine Only.allocs ?_ _) | (with_reducible refine Only.drews ?_) | (with_reducible refine Only.setCells ?_ _ (by simp) _)))))
      (first
        | (refine step_copy_bytes (b := t.b) (by rfl) _ _ (by rfl) _ (by rfl) (by rfl) (HTB2.out _ (by (repeat (first | (with_reducible assumption) | (with_reducible exact Only.refl _ _) | (with_reducible refine Only.allocs ?_ _) | (with_reducible refine Only.drews ?_) | (with_reducible refine Only.setCells ?_ _ (by simp) _))))) hbl ?_; intro A4 c4 w4 hb4 o4; have q4 : Only w3 w4 [] := Only.trans (by (repeat (first | (with_reducible assumption) | (with_reducible exact Only.refl _ _) | (with_reducible refine Only.allocs ?_ _) | (with_reducible refine Only.drews ?_)))) o4 (by simp); have q5 : Only w3 w4 [w.heap.size + 1] := q4.weaken (by simp); have hr4 := (q4.block _ hrl (by simp)).trans HR3.out; have HR4 := Aside0.mk hr4; have HB4 := Aside0.mk hb4; have HO4 := Aside0.mk q4; obtain ⟨y0, y1, y2, y3, y4, yf0, yf1, yf2, yf3, yf4⟩ := blk5 hr4; clear o4 hb4 hr4 q4)
        | fail)
  go_wp2_with fail
  obtain ⟨k1, k2, k3, k4⟩ := fin_at HP.out (HP3.out.keep HO4.out) (HO3.out.trans HO4.out (by simp)) (.int .i64 4) (.string ⟨#[]⟩) (.int .i64 0) (.slice A4 t.b.length c4) (.slice none 0 0) HR4.out (TV_node (kd := 4) (s := ⟨#[]⟩) (n := 0) (HB4.out.move (Q := fun k => w.heap.size + 2 ≤ k) (fun k hk hP => ⟨rfl, by (try simp at hP); omega⟩)) (RT.nil _ _)) (Nat.le_succ _) (Nat.lt_succ_self _) _ (by (repeat (first | (with_reducible assumption) | (with_reducible exact Only.refl _ _) | (with_reducible refine Only.allocs ?_ _) | (with_reducible refine Only.drews ?_))))
  obtain ⟨f0, f1, f2, f3, f4, _⟩ := blk5 k4
  refine bodyPost_ret (v := .agg #[.int .i64 4, .string ⟨#[]⟩, .int .i64 0, .slice A4 t.b.length c4, .slice none 0 0]) (by simp [results, Tryd.results71, go_sem, f0, f1, f2, f3, f4]) rfl ?_
  exact ⟨_, rfl, k1, k2, k3⟩
set_option maxHeartbeats 4000000
set_option maxRecDepth 100000

theorem prim_atom {g : Nat} {A : Option Addr} {c : Nat} {T : List GT} {n i : Nat} {t : GT} (ht : T[i]? = some t) (hk : t.kd = 2) (hb : isAt T (i + 1) sOpen = false) (w : World) (h : PAt w g A c T i n) : Calls Tryd.prog 71 #[.pointer (some ⟨g, 0, none⟩)] w (ERet w g A c T n (.ok (.node 2 t.s 0 [] []) (i + 1))) := by
  have hgl := h.g_lt
  have HP := Aside0.mk h
  have hi : i < T.length := (List.getElem?_eq_some_iff.1 ht).1
  have hlen := h.len
  have hin := primIn w g hgl
  obtain ⟨w1, hw1⟩ : ∃ w1, w1 = (w.alloc (.cells #[.pointer (some ⟨g, 0, none⟩)] 57)).alloc (.cells zT 28) := ⟨_, rfl⟩
  rw [← hw1] at hin
  have hki := kind_c w1 g A c T i n (h.keep hin.o1)
  rw [show kindAt T i = 2 by simp [kindAt, ht, hk]] at hki
  obtain ⟨b, o, A3, c3, rfl, hbg, t0, t1, t2, t3, _, tb⟩ := h.tok ht
  have hbw : b < w.heap.size := World.block_lt_of_cell? _ _ t0
  have HIN := Aside0.mk hin
  have HK := Aside0.mk hki
  have HT1 := Aside0.mk t1
  clear hki hin h ht hk t0 t1 t2 t3 tb
  go_enter Tryd.func71, Tryd.ntmps71
  go_wp2_with (go_at_call 35; rw [← hw1]; clear hw1; refine HK.out.mono ?_; rintro e w2 ⟨rfl, d2⟩; have o2 := d2.only []; have hp2 := (HP.out.keep HIN.out.o1).keep o2; obtain ⟨x0, x1, x2, xf0, xf1, xf2⟩ := blk3 hp2.cell; have hx := HIN.out.box w2 (d2.only _); have hz2 : w.heap.size + 2 ≤ w2.heap.size := (by have := o2.size; have := HIN.out.size; omega); have HP2 := Aside0.mk hp2; have HD2 := Aside0.mk d2; clear o2 hp2 d2)
  have z0 : (i : Int) < (T.length : Int) := by omega
  have z1 : (0 : Int) ≤ (i : Int) := by omega
  have hall : ∀ W, Only w2 W [] → W.cell? ⟨w.heap.size, 0, none⟩ = some (.pointer (some ⟨g, 0, none⟩)) ∧ W.cell? ⟨g, 0, none⟩ = some (.slice (some ⟨b, o, none⟩) T.length c) ∧ W.cell? ⟨g, 1, none⟩ = some (.int .i64 i) ∧ W.cell? ⟨b, o + i * 5 + 1, none⟩ = some (.string t.s) := fun W hW => by
    have key : ∀ k off v, w2.cell? ⟨k, off, none⟩ = some v → W.cell? ⟨k, off, none⟩ = some v := fun k off v hv => (World.cell?_of_block (hW.block k (World.block_lt_of_cell? _ _ hv) (by simp))).trans hv
    have o02 : Only w w2 [] := HIN.out.o1.trans (HD2.out.only []) (by simp)
    exact ⟨key _ _ _ hx, key _ _ _ x0, key _ _ _ x1, key _ _ _ ((World.cell?_of_block (o02.block b hbw (by simp))).trans HT1.out)⟩
  have HALL := Aside0.mk hall
  clear x0 x1 x2 xf0 xf1 xf2 hx hall
  go_region_held3 (fun W => W.cell? ⟨w.heap.size, 0, none⟩ = some (.pointer (some ⟨g, 0, none⟩)) ∧ W.cell? ⟨g, 0, none⟩ = some (.slice (some ⟨b, o, none⟩) T.length c) ∧ W.cell? ⟨g, 1, none⟩ = some (.int .i64 i) ∧ W.cell? ⟨b, o + i * 5 + 1, none⟩ = some (.string t.s))
    (first | exact HALL.out _ (by (repeat (first | (with_reducible assumption) | (with_reducible exact Only.refl _ _) | (with_reducible refine Only.allocs ?_ _) | (with_reducible refine Only.drews ?_) | (with_reducible refine Only.setNew ?_ _ (Nat.le_refl _) _)))))
    (first
      | fail
      | fail)
  obtain ⟨w3, hw3⟩ : ∃ w3, w3 = (w2.alloc (.cells #[.string t.s] 9)).drew := ⟨_, rfl⟩
  rw [← hw3]
  have o23 : Only w2 w3 [] := by rw [hw3]; exact ((Only.refl _ []).allocs _).drews
  have hbn3 : w3.heap[w2.heap.size]? = some (.cells #[.string t.s] 9 (0, 0)) := by rw [hw3]; exact heap_alloc_new w2 _
  have hp3 := HP2.out.keep o23
  obtain ⟨x0, x1, x2, xf0, xf1, xf2⟩ := blk3 hp3.cell
  have o13 : Only w1 w3 [g] := (HD2.out.only [g]).trans o23 (by simp)
  have hx3 := HIN.out.box w3 o13
  obtain ⟨hp4, o34⟩ := hp3.step (j := i + 1) hi
  rw [show (((i + 1 : Nat) : Int)) = (i : Int) + 1 by omega] at hp4 o34
  obtain ⟨w4, hw4⟩ : ∃ w4, w4 = w3.setCell ⟨g, 1, none⟩ (.int .i64 ((i : Int) + 1)) := ⟨_, rfl⟩
  rw [← hw4] at hp4 o34
  have o14 : Only w1 w4 [g] := o13.trans o34 (fun _ h => .inl h)
  have hx4 := HIN.out.box w4 o14
  have hr4 := HIN.out.res w4 o14
  have hbn4 := (o34.block _ (Array.getElem?_eq_some_iff.1 hbn3).1 (by have := HP2.out.g_lt; simp; omega)).trans hbn3
  have hbc4 : ∀ W, Only w4 W [g] → W.heap[w2.heap.size]? = some (.cells #[.string t.s] 9 (0, 0)) := fun W hW => (hW.block _ (Array.getElem?_eq_some_iff.1 hbn4).1 (by have := HP2.out.g_lt; simp; omega)).trans hbn4
  have his := is_c w4 g _ c T (i + 1) n sOpen hp4
  rw [hb] at his
  have HIS := Aside0.mk his
  have HP4 := Aside0.mk hp4
  have HO14 := Aside0.mk o14
  have HBC4 := Aside0.mk hbc4
  have HW4 := Aside0.mk hw4
  have hgl3 : g < w3.heap.size := hp3.g_lt
  have hz3 : w.heap.size + 3 ≤ w3.heap.size := by have := (Array.getElem?_eq_some_iff.1 hbn3).1; omega
  clear hw3 hp3 hp4 o13 o14 o23 o34 hbn3 hbn4 hbc4 his hx4 hr4 hw4 hb
  go_upto_if 95 with (go_at_call 38; rw [← HW4.out]; refine HIS.out.mono ?_; rintro e w5 ⟨rfl, d5⟩; have HD5 := Aside0.mk d5; clear d5)
  have o15 : Only w1 w5 [g] := HO14.out.trans (HD5.out.only [g]) (fun _ h => .inl h)
  have hx5 := HIN.out.box w5 o15
  have hr5 := HIN.out.res w5 o15
  have hbn5 := HBC4.out w5 (HD5.out.only _)
  have hn5 : w5.cell? ⟨w2.heap.size, 0, none⟩ = some (.string t.s) := by rw [Lib.cell_of_heap hbn5]; rfl
  have o05 : Only w w5 [g] := (HIN.out.o1.weaken (by simp)).trans o15 (fun _ h => .inl h)
  have hp5 := HP4.out.keep (HD5.out.only [])
  have hrl : w.heap.size + 1 < w5.heap.size := (Array.getElem?_eq_some_iff.1 hr5).1
  have HO05 := Aside0.mk o05
  have HP5 := Aside0.mk hp5
  have HR5 := Aside0.mk hr5
  have HBN5 := Aside0.mk hbn5
  have HBX5 := Aside0.mk (HIN.out.boxAt w5 o15)
  clear o15 hr5 hbn5 o05 hp5 x0 x1 x2 xf0 xf1 xf2
  go_wp2_with (go_at_call 23; refine (tree_c _ (fun k => w.heap.size + 2 ≤ k) 2 t.s (.slice none 0 0) [] (RT.nil _ _) (by simp)).mono ?_; rintro e w6 ⟨u6, rfl, htv6, o6⟩; obtain ⟨kd6, s6, n6, A36, n36, c36, A46, n46, c46, rfl⟩ := htv6.five; have hr6 := (o6.block _ hrl (by simp)).trans HR5.out; have HR6 := Aside0.mk hr6; have HTV6 := Aside0.mk htv6; have HO6 := Aside0.mk o6; obtain ⟨y0, y1, y2, y3, y4, yf0, yf1, yf2, yf3, yf4⟩ := blk5 hr6; clear o6 htv6 hr6)
  obtain ⟨k1, k2, k3, k4⟩ := fin_at HP.out (HP5.out.keep HO6.out) (HO05.out.trans HO6.out (by simp)) (.int .i64 kd6) (.string s6) (.int .i64 n6) (.slice A36 n36 c36) (.slice A46 n46 c46) HR6.out (TV_move (Q := fun k => w.heap.size + 2 ≤ k) (fun k hk hP => ⟨rfl, by rcases hP with hP | hP <;> omega⟩) _ _ HTV6.out) (Nat.le_succ _) (Nat.lt_succ_self _) _ (Only.refl _ [])
  obtain ⟨f0, f1, f2, f3, f4, _⟩ := blk5 k4
  refine bodyPost_ret (v := .agg #[.int .i64 kd6, .string s6, .int .i64 n6, .slice A36 n36 c36, .slice A46 n46 c46]) (by simp [results, Tryd.results71, go_sem, f0, f1, f2, f3, f4]) rfl ?_
  exact ⟨_, rfl, k1, k2, k3⟩
/-- One deeper. -/
def lvS (T : List GT) (m : Nat) : Lv := ⟨exprS T (loS T m), unaryS T (loS T m)⟩
theorem withinS_wi (T : List GT) (n i : Nat) (f : Lv → Nat → PR GTree) : withinS (loS T n) i f = wiS n i (f (lvS T (n - 1)) (i + 1)) := by
  cases n <;> rfl
theorem lvS_on (T : List GT) (m : Nat) : OnL T (lvS T m) := loS_on T (m + 1) _ rfl
theorem prim_call {g : Nat} {A : Option Addr} {c : Nat} {T : List GT} {n i : Nat} {t : GT} (hlv : LvOK g A c T n) (ht : T[i]? = some t) (hk : t.kd = 2) (hb : isAt T (i + 1) sOpen = true) (w : World) (h : PAt w g A c T i n) : Calls Tryd.prog 71 #[.pointer (some ⟨g, 0, none⟩)] w (ERet w g A c T n (wiS n (i + 1) (rowS T 11 t.s sShut (lvS T (n - 1)) (i + 1 + 1)))) := by
  have hlt := isAt_lt hb
  have hgl := h.g_lt
  have HP := Aside0.mk h
  have hi : i < T.length := (List.getElem?_eq_some_iff.1 ht).1
  have hlen := h.len
  have hin := primIn w g hgl
  obtain ⟨w1, hw1⟩ : ∃ w1, w1 = (w.alloc (.cells #[.pointer (some ⟨g, 0, none⟩)] 57)).alloc (.cells zT 28) := ⟨_, rfl⟩
  rw [← hw1] at hin
  have hki := kind_c w1 g A c T i n (h.keep hin.o1)
  rw [show kindAt T i = 2 by simp [kindAt, ht, hk]] at hki
  obtain ⟨b, o, A3, c3, rfl, hbg, t0, t1, t2, t3, _, tb⟩ := h.tok ht
  have hbw : b < w.heap.size := World.block_lt_of_cell? _ _ t0
  have HIN := Aside0.mk hin
  have HK := Aside0.mk hki
  have HT1 := Aside0.mk t1
  clear hki hin h ht hk t0 t1 t2 t3 tb
  go_enter Tryd.func71, Tryd.ntmps71
  go_wp2_with (go_at_call 35; rw [← hw1]; clear hw1; refine HK.out.mono ?_; rintro e w2 ⟨rfl, d2⟩; have o2 := d2.only []; have hp2 := (HP.out.keep HIN.out.o1).keep o2; obtain ⟨x0, x1, x2, xf0, xf1, xf2⟩ := blk3 hp2.cell; have hx := HIN.out.box w2 (d2.only _); have hz2 : w.heap.size + 2 ≤ w2.heap.size := (by have := o2.size; have := HIN.out.size; omega); have HP2 := Aside0.mk hp2; have HD2 := Aside0.mk d2; clear o2 hp2 d2)
  have z0 : (i : Int) < (T.length : Int) := by omega
  have z1 : (0 : Int) ≤ (i : Int) := by omega
  have hall : ∀ W, Only w2 W [] → W.cell? ⟨w.heap.size, 0, none⟩ = some (.pointer (some ⟨g, 0, none⟩)) ∧ W.cell? ⟨g, 0, none⟩ = some (.slice (some ⟨b, o, none⟩) T.length c) ∧ W.cell? ⟨g, 1, none⟩ = some (.int .i64 i) ∧ W.cell? ⟨b, o + i * 5 + 1, none⟩ = some (.string t.s) := fun W hW => by
    have key : ∀ k off v, w2.cell? ⟨k, off, none⟩ = some v → W.cell? ⟨k, off, none⟩ = some v := fun k off v hv => (World.cell?_of_block (hW.block k (World.block_lt_of_cell? _ _ hv) (by simp))).trans hv
    have o02 : Only w w2 [] := HIN.out.o1.trans (HD2.out.only []) (by simp)
    exact ⟨key _ _ _ hx, key _ _ _ x0, key _ _ _ x1, key _ _ _ ((World.cell?_of_block (o02.block b hbw (by simp))).trans HT1.out)⟩
  have HALL := Aside0.mk hall
  clear x0 x1 x2 xf0 xf1 xf2 hx hall
  go_region_held3 (fun W => W.cell? ⟨w.heap.size, 0, none⟩ = some (.pointer (some ⟨g, 0, none⟩)) ∧ W.cell? ⟨g, 0, none⟩ = some (.slice (some ⟨b, o, none⟩) T.length c) ∧ W.cell? ⟨g, 1, none⟩ = some (.int .i64 i) ∧ W.cell? ⟨b, o + i * 5 + 1, none⟩ = some (.string t.s))
    (first | exact HALL.out _ (by (repeat (first | (with_reducible assumption) | (with_reducible exact Only.refl _ _) | (with_reducible refine Only.allocs ?_ _) | (with_reducible refine Only.drews ?_) | (with_reducible refine Only.setNew ?_ _ (Nat.le_refl _) _)))))
    (first
      | fail
      | fail)
  obtain ⟨w3, hw3⟩ : ∃ w3, w3 = (w2.alloc (.cells #[.string t.s] 9)).drew := ⟨_, rfl⟩
  rw [← hw3]
  have o23 : Only w2 w3 [] := by rw [hw3]; exact ((Only.refl _ []).allocs _).drews
  have hbn3 : w3.heap[w2.heap.size]? = some (.cells #[.string t.s] 9 (0, 0)) := by rw [hw3]; exact heap_alloc_new w2 _
  have hp3 := HP2.out.keep o23
  obtain ⟨x0, x1, x2, xf0, xf1, xf2⟩ := blk3 hp3.cell
  have o13 : Only w1 w3 [g] := (HD2.out.only [g]).trans o23 (by simp)
  have hx3 := HIN.out.box w3 o13
  obtain ⟨hp4, o34⟩ := hp3.step (j := i + 1) hi
  rw [show (((i + 1 : Nat) : Int)) = (i : Int) + 1 by omega] at hp4 o34
  obtain ⟨w4, hw4⟩ : ∃ w4, w4 = w3.setCell ⟨g, 1, none⟩ (.int .i64 ((i : Int) + 1)) := ⟨_, rfl⟩
  rw [← hw4] at hp4 o34
  have o14 : Only w1 w4 [g] := o13.trans o34 (fun _ h => .inl h)
  have hx4 := HIN.out.box w4 o14
  have hr4 := HIN.out.res w4 o14
  have hbn4 := (o34.block _ (Array.getElem?_eq_some_iff.1 hbn3).1 (by have := HP2.out.g_lt; simp; omega)).trans hbn3
  have hbc4 : ∀ W, Only w4 W [g] → W.heap[w2.heap.size]? = some (.cells #[.string t.s] 9 (0, 0)) := fun W hW => (hW.block _ (Array.getElem?_eq_some_iff.1 hbn4).1 (by have := HP2.out.g_lt; simp; omega)).trans hbn4
  have his := is_c w4 g _ c T (i + 1) n sOpen hp4
  rw [hb] at his
  have HIS := Aside0.mk his
  have HP4 := Aside0.mk hp4
  have HO14 := Aside0.mk o14
  have HBC4 := Aside0.mk hbc4
  have HW4 := Aside0.mk hw4
  have hgl3 : g < w3.heap.size := hp3.g_lt
  have hz3 : w.heap.size + 3 ≤ w3.heap.size := by have := (Array.getElem?_eq_some_iff.1 hbn3).1; omega
  clear hw3 hp3 hp4 o13 o14 o23 o34 hbn3 hbn4 hbc4 his hx4 hr4 hw4 hb
  go_upto_if 95 with (go_at_call 38; rw [← HW4.out]; refine HIS.out.mono ?_; rintro e w5 ⟨rfl, d5⟩; have HD5 := Aside0.mk d5; clear d5)
  have o15 : Only w1 w5 [g] := HO14.out.trans (HD5.out.only [g]) (fun _ h => .inl h)
  have hx5 := HIN.out.box w5 o15
  have hr5 := HIN.out.res w5 o15
  have hbn5 := HBC4.out w5 (HD5.out.only _)
  have hn5 : w5.cell? ⟨w2.heap.size, 0, none⟩ = some (.string t.s) := by rw [Lib.cell_of_heap hbn5]; rfl
  have o05 : Only w w5 [g] := (HIN.out.o1.weaken (by simp)).trans o15 (fun _ h => .inl h)
  have hp5 := HP4.out.keep (HD5.out.only [])
  have hrl : w.heap.size + 1 < w5.heap.size := (Array.getElem?_eq_some_iff.1 hr5).1
  have HO05 := Aside0.mk o05
  have HP5 := Aside0.mk hp5
  have HR5 := Aside0.mk hr5
  have HBN5 := Aside0.mk hbn5
  have HBX5 := Aside0.mk (HIN.out.boxAt w5 o15)
  clear o15 hr5 hbn5 o05 hp5 x0 x1 x2 xf0 xf1 xf2
  have hwi := within_1 (.pointer (some ⟨w2.heap.size, 0, none⟩)) (.pointer (some ⟨w.heap.size, 0, none⟩)) w5 g _ c T (i + 1) n (rowS T 11 t.s sShut (lvS T (n - 1)) (i + 1 + 1)) HP5.out hlt (fun m hm W hW hO => by
    subst hm
    exact prim1_c hlv.1 (lvS_on T m) _ _ t.s W _ hW (HBX5.out.keep hO (by simp; omega)) ((hO.block _ (Array.getElem?_eq_some_iff.1 HBN5.out).1 (by have := HP2.out.g_lt; simp; omega)).trans HBN5.out))
  cases hr : wiS n (i + 1) (rowS T 11 t.s sShut (lvS T (n - 1)) (i + 1 + 1)) with
  | bad k code =>
    rw [hr] at hwi
    have HWI := Aside0.mk hwi
    have HR := Aside0.mk hr
    clear hwi hr
    go_wp2_with (go_at_call 74; refine HWI.out.mono ?_; rintro e w6 ⟨rfl, o6⟩)
    refine ⟨rfl, ?_⟩
    rw [HR.out]
    exact ⟨rfl, HO05.out.trans o6 (fun _ h => .inl h)⟩
  | ok x j =>
    rw [hr] at hwi
    have HWI := Aside0.mk hwi
    have HR := Aside0.mk hr
    clear hwi hr
    go_wp2_with (go_at_call 74; refine HWI.out.mono ?_; rintro e w6 ⟨u6, rfl, htv6, hp6, o6⟩; obtain ⟨kd6, s6, n6, A36, n36, c36, A46, n46, c46, rfl⟩ := htv6.five; have hr6 := (o6.block _ hrl (by simp; omega)).trans HR5.out; have HR6 := Aside0.mk hr6; have HTV6 := Aside0.mk htv6; have HO6 := Aside0.mk o6; have HP6 := Aside0.mk hp6; obtain ⟨y0, y1, y2, y3, y4, yf0, yf1, yf2, yf3, yf4⟩ := blk5 hr6; clear o6 htv6 hr6 hp6)
    obtain ⟨k1, k2, k3, k4⟩ := fin_at HP.out HP6.out (HO05.out.trans HO6.out (fun _ h => .inl h)) (.int .i64 kd6) (.string s6) (.int .i64 n6) (.slice A36 n36 c36) (.slice A46 n46 c46) HR6.out (TV_move (Q := fun k => w.heap.size + 2 ≤ k) (fun k hk hP => ⟨rfl, by omega⟩) _ _ HTV6.out) (Nat.le_succ _) (Nat.lt_succ_self _) _ (Only.refl _ [])
    obtain ⟨f0, f1, f2, f3, f4, _⟩ := blk5 k4
    refine bodyPost_ret (v := .agg #[.int .i64 kd6, .string s6, .int .i64 n6, .slice A36 n36 c36, .slice A46 n46 c46]) (by simp [results, Tryd.results71, go_sem, f0, f1, f2, f3, f4]) rfl ?_
    rw [HR.out]
    exact ⟨_, rfl, k1, k2, k3⟩
set_option maxHeartbeats 4000000
set_option maxRecDepth 100000

theorem prim_open {g : Nat} {A : Option Addr} {c : Nat} {T : List GT} {n i : Nat} (hlv : LvOK g A c T n) (h1 : kindAt T i ≠ 1) (h2 : kindAt T i ≠ 2) (h3 : kindAt T i ≠ 3) (h4 : kindAt T i ≠ 4) (w : World) (h : PAt w g A c T i n) : Calls Tryd.prog 71 #[.pointer (some ⟨g, 0, none⟩)] w (ERet w g A c T n (opensS T (loS T n) i)) := by
  have hgl := h.g_lt
  have HP := Aside0.mk h
  have hlen := h.len
  have hin := primIn w g hgl
  obtain ⟨w1, hw1⟩ : ∃ w1, w1 = (w.alloc (.cells #[.pointer (some ⟨g, 0, none⟩)] 57)).alloc (.cells zT 28) := ⟨_, rfl⟩
  rw [← hw1] at hin
  have hki := kind_c w1 g A c T i n (h.keep hin.o1)
  obtain ⟨kd, hkd⟩ : ∃ kd, kd = kindAt T i := ⟨_, rfl⟩
  rw [← hkd] at hki h1 h2 h3 h4
  have e1 : (kd == 1) = false := by simpa using h1
  have e2 : (kd == 2) = false := by simpa using h2
  have e3 : (kd == 3) = false := by simpa using h3
  have e4 : (kd == 4) = false := by simpa using h4
  have hpc : ∀ W, Dr w1 W → PAt W g A c T i n := fun W hW => (h.keep hin.o1).keep (hW.only [])
  have hex : ∀ m, n = m + 1 → ExOK 45 g A c T m (lvS T m).ex := fun m hm => by subst hm; exact hlv.1
  have hun : ∀ m, n = m + 1 → ExOK 64 g A c T m (lvS T m).un := fun m hm => by subst hm; exact hlv.2
  have hbo : ∀ m, n = m + 1 → ExOK 39 g A c T m (bodyS T (lvS T m).ex) := fun m hm => body_c (hex m hm) (lvS_on T m).1
  have HIN := Aside0.mk hin
  have HK := Aside0.mk hki
  have HPC := Aside0.mk hpc
  have HEX := Aside0.mk hex
  have HUN := Aside0.mk hun
  have HBO := Aside0.mk hbo
  clear hki hin h hpc h1 h2 h3 h4 hkd hlv hex hun hbo
  go_enter Tryd.func71, Tryd.ntmps71
  go_upto_region 17 with (go_at_call 35; rw [← hw1]; clear hw1; refine HK.out.mono ?_; rintro e w2 ⟨rfl, d⟩; have HCw2 := Aside0.mk d; clear d)
  have hx := HIN.out.box w2 (HCw2.out.only _)
  have his := is_c w2 g A c T i n sOpen (HPC.out w2 HCw2.out)
  obtain ⟨bvw3, hbv⟩ : ∃ bv, bv = isAt T i sOpen := ⟨_, rfl⟩
  rw [← hbv] at his
  have HIS := Aside0.mk his
  have HBVw3 := Aside0.mk hbv
  clear his hbv
  go_upto_if 101 with (go_at_call 38; refine HIS.out.mono ?_; rintro e w3 ⟨rfl, d⟩; have HCw3 := Aside0.mk (HCw2.out.trans d); clear d)
  clear HIS
  have hx := HIN.out.box w3 (HCw3.out.only _)
  cases bvw3 with
  | true =>
    have hlt : i < T.length := isAt_lt HBVw3.out.symm
    have HSP : Aside0 (opensS T (loS T n) i = wiS n i ((parenS T (lvS T (n - 1)) (i + 1)))) := ⟨by rw [← withinS_wi]; simp only [opensS, ← HBVw3.out, if_true, Bool.false_eq_true, if_false]⟩
    have o0 : Only w w3 [g] := (HIN.out.o1.weaken (by simp)).trans (HCw3.out.only [g]) (fun _ h => .inl h)
    have hr0 := HIN.out.res w3 (HCw3.out.only _)
    have hrl : w.heap.size + 1 < (w3).heap.size := (Array.getElem?_eq_some_iff.1 hr0).1
    have HR0 := Aside0.mk hr0
    have HO0 := Aside0.mk o0
    have hwi := within_2 (.pointer (some ⟨w.heap.size, 0, none⟩)) w3 g A c T i n ((parenS T (lvS T (n - 1)) (i + 1))) (HPC.out w3 HCw3.out) hlt (fun m hm W hW hO => by
      subst hm
      exact (prim2_c (HEX.out m rfl) (w.heap.size) W _ hW (HIN.out.boxAt W ((HCw3.out.only [g]).trans hO (fun _ h => .inl h)))))
    cases hr : wiS n i ((parenS T (lvS T (n - 1)) (i + 1))) with
    | bad k code =>
      rw [hr] at hwi
      have HWI := Aside0.mk hwi
      have HR := Aside0.mk hr
      clear hwi hr hr0 o0
      go_wp2_with (go_at_call 74; refine HWI.out.mono ?_; rintro e w6 ⟨rfl, o6⟩)
      refine ⟨rfl, ?_⟩
      rw [HSP.out, HR.out]
      exact ⟨rfl, HO0.out.trans o6 (fun _ h => .inl h)⟩
    | ok x j =>
      rw [hr] at hwi
      have HWI := Aside0.mk hwi
      have HR := Aside0.mk hr
      clear hwi hr hr0 o0
      go_wp2_with (go_at_call 74; refine HWI.out.mono ?_; rintro e w6 ⟨u6, rfl, htv6, hp6, o6⟩; obtain ⟨kd6, s6, n6, A36, n36, c36, A46, n46, c46, rfl⟩ := htv6.five; have hr6 := (o6.block _ hrl (by simp; omega)).trans HR0.out; have HR6 := Aside0.mk hr6; have HTV6 := Aside0.mk htv6; have HO6 := Aside0.mk o6; have HP6 := Aside0.mk hp6; obtain ⟨y0, y1, y2, y3, y4, yf0, yf1, yf2, yf3, yf4⟩ := blk5 hr6; clear o6 htv6 hr6 hp6)
      obtain ⟨k1, k2, k3, k4⟩ := fin_at HP.out HP6.out (HO0.out.trans HO6.out (fun _ h => .inl h)) (.int .i64 kd6) (.string s6) (.int .i64 n6) (.slice A36 n36 c36) (.slice A46 n46 c46) HR6.out (TV_move (Q := fun k => w.heap.size + 2 ≤ k) (fun k hk hP => ⟨rfl, by omega⟩) _ _ HTV6.out) (Nat.le_succ _) (Nat.lt_succ_self _) _ (Only.refl _ [])
      obtain ⟨f0, f1, f2, f3, f4, _⟩ := blk5 k4
      refine bodyPost_ret (v := .agg #[.int .i64 kd6, .string s6, .int .i64 n6, .slice A36 n36 c36, .slice A46 n46 c46]) (by simp [results, Tryd.results71, go_sem, f0, f1, f2, f3, f4]) rfl ?_
      rw [HSP.out, HR.out]
      exact ⟨_, rfl, k1, k2, k3⟩
  | false =>
  have his := is_c w3 g A c T i n sBrace (HPC.out w3 HCw3.out)
  obtain ⟨bvw4, hbv⟩ : ∃ bv, bv = isAt T i sBrace := ⟨_, rfl⟩
  rw [← hbv] at his
  have HIS := Aside0.mk his
  have HBVw4 := Aside0.mk hbv
  clear his hbv
  go_upto_if 107 with (go_at_call 38; refine HIS.out.mono ?_; rintro e w4 ⟨rfl, d⟩; have HCw4 := Aside0.mk (HCw3.out.trans d); clear d)
  clear HIS
  have hx := HIN.out.box w4 (HCw4.out.only _)
  cases bvw4 with
  | true =>
    have hlt : i < T.length := isAt_lt HBVw4.out.symm
    have HSP : Aside0 (opensS T (loS T n) i = wiS n i ((rowS T 5 gE sUnbrace (lvS T (n - 1)) (i + 1)))) := ⟨by rw [← withinS_wi]; simp only [opensS, ← HBVw3.out, ← HBVw4.out, if_true, Bool.false_eq_true, if_false]⟩
    have o0 : Only w w4 [g] := (HIN.out.o1.weaken (by simp)).trans (HCw4.out.only [g]) (fun _ h => .inl h)
    have hr0 := HIN.out.res w4 (HCw4.out.only _)
    have hrl : w.heap.size + 1 < (w4).heap.size := (Array.getElem?_eq_some_iff.1 hr0).1
    have HR0 := Aside0.mk hr0
    have HO0 := Aside0.mk o0
    have hwi := within_3 (.pointer (some ⟨w.heap.size, 0, none⟩)) w4 g A c T i n ((rowS T 5 gE sUnbrace (lvS T (n - 1)) (i + 1))) (HPC.out w4 HCw4.out) hlt (fun m hm W hW hO => by
      subst hm
      exact (prim3_c (HEX.out m rfl) (lvS_on T m) (w.heap.size) W _ hW (HIN.out.boxAt W ((HCw4.out.only [g]).trans hO (fun _ h => .inl h)))))
    cases hr : wiS n i ((rowS T 5 gE sUnbrace (lvS T (n - 1)) (i + 1))) with
    | bad k code =>
      rw [hr] at hwi
      have HWI := Aside0.mk hwi
      have HR := Aside0.mk hr
      clear hwi hr hr0 o0
      go_wp2_with (go_at_call 74; refine HWI.out.mono ?_; rintro e w6 ⟨rfl, o6⟩)
      refine ⟨rfl, ?_⟩
      rw [HSP.out, HR.out]
      exact ⟨rfl, HO0.out.trans o6 (fun _ h => .inl h)⟩
    | ok x j =>
      rw [hr] at hwi
      have HWI := Aside0.mk hwi
      have HR := Aside0.mk hr
      clear hwi hr hr0 o0
      go_wp2_with (go_at_call 74; refine HWI.out.mono ?_; rintro e w6 ⟨u6, rfl, htv6, hp6, o6⟩; obtain ⟨kd6, s6, n6, A36, n36, c36, A46, n46, c46, rfl⟩ := htv6.five; have hr6 := (o6.block _ hrl (by simp; omega)).trans HR0.out; have HR6 := Aside0.mk hr6; have HTV6 := Aside0.mk htv6; have HO6 := Aside0.mk o6; have HP6 := Aside0.mk hp6; obtain ⟨y0, y1, y2, y3, y4, yf0, yf1, yf2, yf3, yf4⟩ := blk5 hr6; clear o6 htv6 hr6 hp6)
      obtain ⟨k1, k2, k3, k4⟩ := fin_at HP.out HP6.out (HO0.out.trans HO6.out (fun _ h => .inl h)) (.int .i64 kd6) (.string s6) (.int .i64 n6) (.slice A36 n36 c36) (.slice A46 n46 c46) HR6.out (TV_move (Q := fun k => w.heap.size + 2 ≤ k) (fun k hk hP => ⟨rfl, by omega⟩) _ _ HTV6.out) (Nat.le_succ _) (Nat.lt_succ_self _) _ (Only.refl _ [])
      obtain ⟨f0, f1, f2, f3, f4, _⟩ := blk5 k4
      refine bodyPost_ret (v := .agg #[.int .i64 kd6, .string s6, .int .i64 n6, .slice A36 n36 c36, .slice A46 n46 c46]) (by simp [results, Tryd.results71, go_sem, f0, f1, f2, f3, f4]) rfl ?_
      rw [HSP.out, HR.out]
      exact ⟨_, rfl, k1, k2, k3⟩
  | false =>
  have his := is_c w4 g A c T i n sBrack (HPC.out w4 HCw4.out)
  obtain ⟨bvw5, hbv⟩ : ∃ bv, bv = isAt T i sBrack := ⟨_, rfl⟩
  rw [← hbv] at his
  have HIS := Aside0.mk his
  have HBVw5 := Aside0.mk hbv
  clear his hbv
  go_upto_if 113 with (go_at_call 38; refine HIS.out.mono ?_; rintro e w5 ⟨rfl, d⟩; have HCw5 := Aside0.mk (HCw4.out.trans d); clear d)
  clear HIS
  have hx := HIN.out.box w5 (HCw5.out.only _)
  cases bvw5 with
  | true =>
    have hlt : i < T.length := isAt_lt HBVw5.out.symm
    have HSP : Aside0 (opensS T (loS T n) i = wiS n i ((rowS T 6 gE sUnbrack (lvS T (n - 1)) (i + 1)))) := ⟨by rw [← withinS_wi]; simp only [opensS, ← HBVw3.out, ← HBVw4.out, ← HBVw5.out, if_true, Bool.false_eq_true, if_false]⟩
    have o0 : Only w w5 [g] := (HIN.out.o1.weaken (by simp)).trans (HCw5.out.only [g]) (fun _ h => .inl h)
    have hr0 := HIN.out.res w5 (HCw5.out.only _)
    have hrl : w.heap.size + 1 < (w5).heap.size := (Array.getElem?_eq_some_iff.1 hr0).1
    have HR0 := Aside0.mk hr0
    have HO0 := Aside0.mk o0
    have hwi := within_4 (.pointer (some ⟨w.heap.size, 0, none⟩)) w5 g A c T i n ((rowS T 6 gE sUnbrack (lvS T (n - 1)) (i + 1))) (HPC.out w5 HCw5.out) hlt (fun m hm W hW hO => by
      subst hm
      exact (prim4_c (HEX.out m rfl) (lvS_on T m) (w.heap.size) W _ hW (HIN.out.boxAt W ((HCw5.out.only [g]).trans hO (fun _ h => .inl h)))))
    cases hr : wiS n i ((rowS T 6 gE sUnbrack (lvS T (n - 1)) (i + 1))) with
    | bad k code =>
      rw [hr] at hwi
      have HWI := Aside0.mk hwi
      have HR := Aside0.mk hr
      clear hwi hr hr0 o0
      go_wp2_with (go_at_call 74; refine HWI.out.mono ?_; rintro e w6 ⟨rfl, o6⟩)
      refine ⟨rfl, ?_⟩
      rw [HSP.out, HR.out]
      exact ⟨rfl, HO0.out.trans o6 (fun _ h => .inl h)⟩
    | ok x j =>
      rw [hr] at hwi
      have HWI := Aside0.mk hwi
      have HR := Aside0.mk hr
      clear hwi hr hr0 o0
      go_wp2_with (go_at_call 74; refine HWI.out.mono ?_; rintro e w6 ⟨u6, rfl, htv6, hp6, o6⟩; obtain ⟨kd6, s6, n6, A36, n36, c36, A46, n46, c46, rfl⟩ := htv6.five; have hr6 := (o6.block _ hrl (by simp; omega)).trans HR0.out; have HR6 := Aside0.mk hr6; have HTV6 := Aside0.mk htv6; have HO6 := Aside0.mk o6; have HP6 := Aside0.mk hp6; obtain ⟨y0, y1, y2, y3, y4, yf0, yf1, yf2, yf3, yf4⟩ := blk5 hr6; clear o6 htv6 hr6 hp6)
      obtain ⟨k1, k2, k3, k4⟩ := fin_at HP.out HP6.out (HO0.out.trans HO6.out (fun _ h => .inl h)) (.int .i64 kd6) (.string s6) (.int .i64 n6) (.slice A36 n36 c36) (.slice A46 n46 c46) HR6.out (TV_move (Q := fun k => w.heap.size + 2 ≤ k) (fun k hk hP => ⟨rfl, by omega⟩) _ _ HTV6.out) (Nat.le_succ _) (Nat.lt_succ_self _) _ (Only.refl _ [])
      obtain ⟨f0, f1, f2, f3, f4, _⟩ := blk5 k4
      refine bodyPost_ret (v := .agg #[.int .i64 kd6, .string s6, .int .i64 n6, .slice A36 n36 c36, .slice A46 n46 c46]) (by simp [results, Tryd.results71, go_sem, f0, f1, f2, f3, f4]) rfl ?_
      rw [HSP.out, HR.out]
      exact ⟨_, rfl, k1, k2, k3⟩
  | false =>
  have his := is_c w5 g A c T i n sCase (HPC.out w5 HCw5.out)
  obtain ⟨bvw6, hbv⟩ : ∃ bv, bv = isAt T i sCase := ⟨_, rfl⟩
  rw [← hbv] at his
  have HIS := Aside0.mk his
  have HBVw6 := Aside0.mk hbv
  clear his hbv
  go_upto_if 119 with (go_at_call 38; refine HIS.out.mono ?_; rintro e w6 ⟨rfl, d⟩; have HCw6 := Aside0.mk (HCw5.out.trans d); clear d)
  clear HIS
  have hx := HIN.out.box w6 (HCw6.out.only _)
  cases bvw6 with
  | true =>
    have hlt : i < T.length := isAt_lt HBVw6.out.symm
    have HSP : Aside0 (opensS T (loS T n) i = wiS n i ((caseS T (lvS T (n - 1)) (i + 1)))) := ⟨by rw [← withinS_wi]; simp only [opensS, ← HBVw3.out, ← HBVw4.out, ← HBVw5.out, ← HBVw6.out, if_true, Bool.false_eq_true, if_false]⟩
    have o0 : Only w w6 [g] := (HIN.out.o1.weaken (by simp)).trans (HCw6.out.only [g]) (fun _ h => .inl h)
    have hr0 := HIN.out.res w6 (HCw6.out.only _)
    have hrl : w.heap.size + 1 < (w6).heap.size := (Array.getElem?_eq_some_iff.1 hr0).1
    have HR0 := Aside0.mk hr0
    have HO0 := Aside0.mk o0
    have hwi := within_5 (.pointer (some ⟨g, 0, none⟩)) w6 g A c T i n ((caseS T (lvS T (n - 1)) (i + 1))) (HPC.out w6 HCw6.out) hlt (fun m hm W hW hO => by
      subst hm
      exact (choice_c (HEX.out m rfl) (HUN.out m rfl) (HBO.out m rfl) (lvS_on T m) W _ hW))
    cases hr : wiS n i ((caseS T (lvS T (n - 1)) (i + 1))) with
    | bad k code =>
      rw [hr] at hwi
      have HWI := Aside0.mk hwi
      have HR := Aside0.mk hr
      clear hwi hr hr0 o0
      go_wp2_with (go_at_call 74; refine HWI.out.mono ?_; rintro e w6 ⟨rfl, o6⟩)
      refine ⟨rfl, ?_⟩
      rw [HSP.out, HR.out]
      exact ⟨rfl, HO0.out.trans o6 (fun _ h => .inl h)⟩
    | ok x j =>
      rw [hr] at hwi
      have HWI := Aside0.mk hwi
      have HR := Aside0.mk hr
      clear hwi hr hr0 o0
      go_wp2_with (go_at_call 74; refine HWI.out.mono ?_; rintro e w6 ⟨u6, rfl, htv6, hp6, o6⟩; obtain ⟨kd6, s6, n6, A36, n36, c36, A46, n46, c46, rfl⟩ := htv6.five; have hr6 := (o6.block _ hrl (by simp; omega)).trans HR0.out; have HR6 := Aside0.mk hr6; have HTV6 := Aside0.mk htv6; have HO6 := Aside0.mk o6; have HP6 := Aside0.mk hp6; obtain ⟨y0, y1, y2, y3, y4, yf0, yf1, yf2, yf3, yf4⟩ := blk5 hr6; clear o6 htv6 hr6 hp6)
      obtain ⟨k1, k2, k3, k4⟩ := fin_at HP.out HP6.out (HO0.out.trans HO6.out (fun _ h => .inl h)) (.int .i64 kd6) (.string s6) (.int .i64 n6) (.slice A36 n36 c36) (.slice A46 n46 c46) HR6.out (TV_move (Q := fun k => w.heap.size + 2 ≤ k) (fun k hk hP => ⟨rfl, by omega⟩) _ _ HTV6.out) (Nat.le_succ _) (Nat.lt_succ_self _) _ (Only.refl _ [])
      obtain ⟨f0, f1, f2, f3, f4, _⟩ := blk5 k4
      refine bodyPost_ret (v := .agg #[.int .i64 kd6, .string s6, .int .i64 n6, .slice A36 n36 c36, .slice A46 n46 c46]) (by simp [results, Tryd.results71, go_sem, f0, f1, f2, f3, f4]) rfl ?_
      rw [HSP.out, HR.out]
      exact ⟨_, rfl, k1, k2, k3⟩
  | false =>
  have his := is_c w6 g A c T i n sRecv (HPC.out w6 HCw6.out)
  obtain ⟨bvw7, hbv⟩ : ∃ bv, bv = isAt T i sRecv := ⟨_, rfl⟩
  rw [← hbv] at his
  have HIS := Aside0.mk his
  have HBVw7 := Aside0.mk hbv
  clear his hbv
  go_upto_if 126 with (go_at_call 38; refine HIS.out.mono ?_; rintro e w7 ⟨rfl, d⟩; have HCw7 := Aside0.mk (HCw6.out.trans d); clear d)
  clear HIS
  have hx := HIN.out.box w7 (HCw7.out.only _)
  cases bvw7 with
  | true =>
    have hlt : i < T.length := isAt_lt HBVw7.out.symm
    have HSP : Aside0 (opensS T (loS T n) i = wiS n i ((recvS T (lvS T (n - 1)) (i + 1)))) := ⟨by rw [← withinS_wi]; simp only [opensS, ← HBVw3.out, ← HBVw4.out, ← HBVw5.out, ← HBVw6.out, ← HBVw7.out, if_true, Bool.false_eq_true, if_false]⟩
    have o0 : Only w w7 [g] := (HIN.out.o1.weaken (by simp)).trans (HCw7.out.only [g]) (fun _ h => .inl h)
    have hr0 := HIN.out.res w7 (HCw7.out.only _)
    have hrl : w.heap.size + 1 < (w7).heap.size := (Array.getElem?_eq_some_iff.1 hr0).1
    have HR0 := Aside0.mk hr0
    have HO0 := Aside0.mk o0
    have hwi := within_6 (.pointer (some ⟨g, 0, none⟩)) w7 g A c T i n ((recvS T (lvS T (n - 1)) (i + 1))) (HPC.out w7 HCw7.out) hlt (fun m hm W hW hO => by
      subst hm
      exact (receive_c (HEX.out m rfl) (HUN.out m rfl) (HBO.out m rfl) (lvS_on T m) W _ hW))
    cases hr : wiS n i ((recvS T (lvS T (n - 1)) (i + 1))) with
    | bad k code =>
      rw [hr] at hwi
      have HWI := Aside0.mk hwi
      have HR := Aside0.mk hr
      clear hwi hr hr0 o0
      go_wp2_with (go_at_call 74; refine HWI.out.mono ?_; rintro e w6 ⟨rfl, o6⟩)
      refine ⟨rfl, ?_⟩
      rw [HSP.out, HR.out]
      exact ⟨rfl, HO0.out.trans o6 (fun _ h => .inl h)⟩
    | ok x j =>
      rw [hr] at hwi
      have HWI := Aside0.mk hwi
      have HR := Aside0.mk hr
      clear hwi hr hr0 o0
      go_wp2_with (go_at_call 74; refine HWI.out.mono ?_; rintro e w6 ⟨u6, rfl, htv6, hp6, o6⟩; obtain ⟨kd6, s6, n6, A36, n36, c36, A46, n46, c46, rfl⟩ := htv6.five; have hr6 := (o6.block _ hrl (by simp; omega)).trans HR0.out; have HR6 := Aside0.mk hr6; have HTV6 := Aside0.mk htv6; have HO6 := Aside0.mk o6; have HP6 := Aside0.mk hp6; obtain ⟨y0, y1, y2, y3, y4, yf0, yf1, yf2, yf3, yf4⟩ := blk5 hr6; clear o6 htv6 hr6 hp6)
      obtain ⟨k1, k2, k3, k4⟩ := fin_at HP.out HP6.out (HO0.out.trans HO6.out (fun _ h => .inl h)) (.int .i64 kd6) (.string s6) (.int .i64 n6) (.slice A36 n36 c36) (.slice A46 n46 c46) HR6.out (TV_move (Q := fun k => w.heap.size + 2 ≤ k) (fun k hk hP => ⟨rfl, by omega⟩) _ _ HTV6.out) (Nat.le_succ _) (Nat.lt_succ_self _) _ (Only.refl _ [])
      obtain ⟨f0, f1, f2, f3, f4, _⟩ := blk5 k4
      refine bodyPost_ret (v := .agg #[.int .i64 kd6, .string s6, .int .i64 n6, .slice A36 n36 c36, .slice A46 n46 c46]) (by simp [results, Tryd.results71, go_sem, f0, f1, f2, f3, f4]) rfl ?_
      rw [HSP.out, HR.out]
      exact ⟨_, rfl, k1, k2, k3⟩
  | false =>
  have HSP : Aside0 (opensS T (loS T n) i = .bad i 160) := ⟨by simp only [opensS, ← HBVw3.out, ← HBVw4.out, ← HBVw5.out, ← HBVw6.out, ← HBVw7.out, if_true, Bool.false_eq_true, if_false]⟩
  have hfl := fail_c w7 g A c T i n 160 (HPC.out w7 HCw7.out)
  have HFL := Aside0.mk hfl
  clear hfl
  go_wp2_with (go_at_call 36; refine HFL.out.mono ?_; rintro e w8 ⟨rfl, rfl⟩)
  refine ⟨rfl, ?_⟩
  rw [HSP.out]
  exact ⟨rfl, (HIN.out.o1.weaken (by simp)).trans (HCw7.out.only [g]) (fun _ h => .inl h)⟩
theorem prim_c {g : Nat} {A : Option Addr} {c : Nat} {T : List GT} {n : Nat} (hlv : LvOK g A c T n) : ExOK 71 g A c T n (primS T (loS T n)) := by
  intro w i h
  cases ht : T[i]? with
  | none =>
    have e : primS T (loS T n) i = opensS T (loS T n) i := by
      have hk : ∀ s, isAt T i s = false := fun s => by simp [isAt, ht]
      simp [primS, ht, opensS, hk]
    have k0 : kindAt T i = 0 := by simp [kindAt, ht]
    rw [e]
    exact prim_open hlv (by rw [k0]; decide) (by rw [k0]; decide) (by rw [k0]; decide) (by rw [k0]; decide) w h
  | some t =>
    have k0 : kindAt T i = t.kd := by simp [kindAt, ht]
    by_cases h1 : t.kd = 1
    · have e : primS T (loS T n) i = .ok (.node 1 gE t.n [] []) (i + 1) := by simp [primS, ht, h1]
      rw [e]
      exact prim_int ht h1 w h
    by_cases h3 : t.kd = 3
    · have e : primS T (loS T n) i = .ok (.node 3 t.s 0 [] []) (i + 1) := by simp [primS, ht, h3]
      rw [e]
      exact prim_var ht h3 w h
    by_cases h4 : t.kd = 4
    · have e : primS T (loS T n) i = .ok (.node 4 gE 0 t.b []) (i + 1) := by simp [primS, ht, h4]
      rw [e]
      exact prim_bytes ht h4 w h
    by_cases h2 : t.kd = 2
    · cases hb : isAt T (i + 1) sOpen with
      | false =>
        have e : primS T (loS T n) i = .ok (.node 2 t.s 0 [] []) (i + 1) := by simp [primS, ht, h2, hb]
        rw [e]
        exact prim_atom ht h2 hb w h
      | true =>
        have e : primS T (loS T n) i = wiS n (i + 1) (rowS T 11 t.s sShut (lvS T (n - 1)) (i + 1 + 1)) := by
          rw [← withinS_wi]
          simp [primS, ht, h2, hb]
        rw [e]
        exact prim_call hlv ht h2 hb w h
    · have e : primS T (loS T n) i = opensS T (loS T n) i := by simp [primS, ht, h1, h2, h3, h4]
      rw [e]
      exact prim_open hlv (by rw [k0]; exact h1) (by rw [k0]; exact h2) (by rw [k0]; exact h3) (by rw [k0]; exact h4) w h
end Go.Proofs.YtejidddjkngoiaaDoor
