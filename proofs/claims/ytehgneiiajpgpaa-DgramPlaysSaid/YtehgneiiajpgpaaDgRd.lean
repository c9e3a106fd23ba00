/- dgram: the document's put. -/
import Derived.Test.YtehgneiiajpgpaaDgRc
namespace Go.Proofs.Ytehgneiiajpgpaa
open Go.RowKit
set_option linter.all false
set_option maxHeartbeats 2000000
set_option maxRecDepth 100000

/-- The document's net, as such. -/
structure RA where
  nodes : Int
  sent : Int
  way : List D0
  boxes : List D0
  lost : Int
def Ref0.abs (M : Ref0) : RA := ⟨M.nodes, M.sent, M.way.map (·.1), M.boxes.map (·.1), M.lost⟩
def rput0 (R : RA) (d : D0) : RA := if R.way.length = 1024 then { R with lost := wrap64 (R.lost + 1) } else { R with way := R.way ++ [d] }
/-- Behind a call of the document's: its net is R now. -/
def RTo (w : World) (P : Nat → Prop) (R : RA) (e : Ending) (w' : World) : Prop :=
  ∃ M' A c A' c', e = .returned (refAgg M' (.slice A M'.way.length c) (.slice A' M'.boxes.length c')) ∧ RAt w' (fun k => P k ∨ w.heap.size ≤ k) (.slice A M'.way.length c) (.slice A' M'.boxes.length c') M' ∧ M'.abs = R ∧ Only w w' []
theorem Only.allocs {w W : World} (h : Only w W []) (o : Obj) : Only w (W.alloc o) [] := h.trans (Only.alloc W o []) (by simp)
theorem Only.drews {w W : World} (h : Only w W []) : Only w W.drew [] := h.trans (Only.drew W []) (by simp)
theorem Only.setCells {w W : World} {ks : List Nat} (h : Only w W ks) (a : Addr) (ha : a.block ∈ ks) (v : Value) : Only w (W.setCell a v) ks := h.trans (Only.setCell W a v) (fun k hk => .inl (by rw [List.mem_singleton.1 hk]; exact ha))
theorem Only.drewk {w W : World} {ks : List Nat} (h : Only w W ks) : Only w W.drew ks := h.trans (Only.drew W ks) (fun k hk => .inl hk)
/-- All but the call's own two blocks. -/
def PX (w : World) (P : Nat → Prop) (k : Nat) : Prop := k ≠ w.heap.size ∧ k ≠ w.heap.size + 1 + 1 ∧ (P k ∨ w.heap.size ≤ k)
theorem RRow.px {w W : World} {P : Nat → Prop} {v : Value} {l : List (D0 × Value)} (h : RRow w P v l) (ho : Only w W []) : RRow W (PX w P) v l := (h.to (fun k hk hP => ⟨by omega, by omega, .inl hP⟩)).only ho
theorem RRow.out {w W W' : World} {P : Nat → Prop} {v : Value} {l : List (D0 × Value)} (h : RRow W (PX w P) v l) (ho : Only W W' [w.heap.size, w.heap.size + 1 + 1]) : RRow W' (fun k => P k ∨ w.heap.size ≤ k) v l :=
  (h.keep (fun k hk hP => ho.block k hk (by simp; exact ⟨hP.1, hP.2.1⟩))).to (fun k _ hP => hP.2.2)
theorem own_empty {W : World} {B g : Nat} (h : W.heap[g]? = some (.cells #[] 54 (0, 0))) (hB : B ≤ g) : W.ownsRow B 54 5 (.slice (some ⟨g, 0, none⟩) 0 0) 0 (flatR []) := ⟨rfl, .inr ⟨g, 0, #[], rfl, hB, h, Nat.le_refl _, Nat.zero_le _, rfl, rfl⟩⟩
theorem rr_one {W : World} {P : Nat → Prop} {g : Nat} {d : D0} {v : Value} (h : W.heap[g]? = some (.cells #[.int .i64 d.f, .int .i64 d.t, .int .u64 d.n, v, .bool d.sp] 54 (0, 0))) (hP : P g) (hb : BytesIn W P v d.b) (hl : d.b.length ≤ 1212) (hy : ∀ y ∈ d.b, 0 ≤ y ∧ y < 256) : RRow W P (.slice (some ⟨g, 0, none⟩) 1 1) [(d, v)] := by
  refine ⟨⟨_, 1, rfl, ⟨Nat.le_refl _, show 1 ≤ maxLen by decide⟩, fun i x hx => ?_⟩, fun x hx => ?_⟩
  · have hi : i = 0 := by
      have := (List.getElem?_eq_some_iff.1 hx).1
      simpa using this
    subst hi
    obtain rfl : (d, v) = x := by simpa using hx
    refine ⟨g, 0, rfl, hP, fun j u hj => ?_⟩
    rw [Lib.cell_of_heap h]
    simpa [cellsR] using hj
  · rw [List.mem_singleton.1 hx]
    exact ⟨hb, hl, hy⟩
/-- An empty row, then one more block; and the other way round. -/
theorem two_new (w6 : World) (o o2 : Obj) : (w6.alloc o).heap[w6.heap.size]? = some o ∧ ((w6.alloc o).alloc o2).heap[w6.heap.size]? = some o ∧ ((w6.alloc o).alloc o2).heap[w6.heap.size + 1]? = some o2 := by
  refine ⟨heap_alloc_new w6 _, (Lib.alloc_old _ _ _ (by simp)).trans (heap_alloc_new w6 _), ?_⟩
  have := heap_alloc_new (w6.alloc o) o2
  simpa using this
theorem rput_c (w : World) (P : Nat → Prop) (A A' : Option Addr) (c c' : Nat) (M : Ref0) (h : RAt w P (.slice A M.way.length c) (.slice A' M.boxes.length c') M) (hl : M.way.length ≤ 1024) (d : D0) (v : Value) (hv : BytesAt w v d.b) (hdl : d.b.length ≤ 1212) (hby : ∀ x ∈ d.b, 0 ≤ x ∧ x < 256) :
    Calls Try.prog 43 #[refAgg M (.slice A M.way.length c) (.slice A' M.boxes.length c'), dgAgg d v] w (RTo w P (rput0 M.abs d)) := by
  obtain ⟨nodes, sent, way, boxes, lost⟩ := M
  obtain ⟨f, t, n, b, sp⟩ := d
  obtain ⟨Av, cv, rfl, hAn, hAc⟩ := id hv
  dsimp only at h hl hv hdl hby hAn hAc ⊢
  by_cases hfull : way.length = 1024
  · have e0 : rput0 (Ref0.abs ⟨nodes, sent, way, boxes, lost⟩) ⟨f, t, n, b, sp⟩ = ⟨nodes, sent, way.map (·.1), boxes.map (·.1), wrap64 (lost + 1)⟩ := by simp [rput0, Ref0.abs, hfull]
    rw [e0]
    rw [hfull] at h
    have HW := Aside0.mk hfull
    simp only [hfull]
    clear hl e0
    go_enter Try.func43, Try.ntmps43
    go_wp2
    refine bodyPost_ret (v := refAgg ⟨nodes, sent, way, boxes, wrap64 (lost + 1)⟩ (.slice A 1024 c) (.slice A' boxes.length c')) (by simp [results, Try.results43, go_sem]) rfl ?_
    refine ⟨⟨nodes, sent, way, boxes, wrap64 (lost + 1)⟩, A, c, A', c', by dsimp only; rw [hfull], ?_⟩
    dsimp only
    rw [hfull]
    have key : ∀ W', Only w W' [] → RAt W' (fun k => P k ∨ w.heap.size ≤ k) (.slice A 1024 c) (.slice A' boxes.length c') ⟨nodes, sent, way, boxes, wrap64 (lost + 1)⟩ ∧ Ref0.abs ⟨nodes, sent, way, boxes, wrap64 (lost + 1)⟩ = ⟨nodes, sent, way.map (·.1), boxes.map (·.1), wrap64 (lost + 1)⟩ ∧ Only w W' [] := fun W' oF =>
      ⟨⟨(h.way.only oF).to (fun k _ hk => .inl hk), (h.boxes.only oF).to (fun k _ hk => .inl hk)⟩, by simp [Ref0.abs], oF⟩
    refine key _ ?_
    (repeat (first | (with_reducible assumption) | (with_reducible exact Only.refl _ _) | (with_reducible refine Only.allocs ?_ _) | (with_reducible refine Only.drews ?_)))
  · have e0 : rput0 (Ref0.abs ⟨nodes, sent, way, boxes, lost⟩) ⟨f, t, n, b, sp⟩ = ⟨nodes, sent, way.map (·.1) ++ [⟨f, t, n, b, sp⟩], boxes.map (·.1), lost⟩ := by simp [rput0, Ref0.abs, hfull]
    rw [e0]
    clear e0
    obtain ⟨w3, hw3⟩ : ∃ w3, w3 = ((w.alloc (.cells #[.int .i64 nodes, .int .u64 sent, .slice A way.length c, .slice A' boxes.length c', .int .i64 lost] 59)).alloc (.cells #[.int .i64 f, .int .i64 t, .int .u64 n, .slice Av b.length cv, .bool sp] 54)).alloc (.cells #[.int .i64 0, .int .u64 0, .slice none 0 0, .slice none 0 0, .int .i64 0] 59) := ⟨_, rfl⟩
    have o3 : Only w w3 [] := by rw [hw3]; exact ((Only.alloc w _ []).trans (Only.alloc _ _ []) (by simp)).trans (Only.alloc _ _ []) (by simp)
    have hz3 : w3.heap.size = w.heap.size + 1 + 1 + 1 := by rw [hw3]; simp
    have b0 : w3.heap[w.heap.size]? = some (.cells #[.int .i64 nodes, .int .u64 sent, .slice A way.length c, .slice A' boxes.length c', .int .i64 lost] 59 (0, 0)) := by
      rw [hw3]
      exact (Lib.alloc_old _ _ _ (by simp; omega)).trans ((Lib.alloc_old _ _ _ (by simp)).trans (heap_alloc_new w _))
    have b1 : w3.heap[w.heap.size + 1]? = some (.cells #[.int .i64 f, .int .i64 t, .int .u64 n, .slice Av b.length cv, .bool sp] 54 (0, 0)) := by
      rw [hw3]
      have := heap_alloc_new (w.alloc (.cells #[.int .i64 nodes, .int .u64 sent, .slice A way.length c, .slice A' boxes.length c', .int .i64 lost] 59)) (.cells #[.int .i64 f, .int .i64 t, .int .u64 n, .slice Av b.length cv, .bool sp] 54)
      exact (Lib.alloc_old _ _ _ (by simp)).trans (by simpa using this)
    have b2 : w3.heap[w.heap.size + 1 + 1]? = some (.cells #[.int .i64 0, .int .u64 0, .slice none 0 0, .slice none 0 0, .int .i64 0] 59 (0, 0)) := by
      rw [hw3]
      have := heap_alloc_new ((w.alloc (.cells #[.int .i64 nodes, .int .u64 sent, .slice A way.length c, .slice A' boxes.length c', .int .i64 lost] 59)).alloc (.cells #[.int .i64 f, .int .i64 t, .int .u64 n, .slice Av b.length cv, .bool sp] 54)) (.cells #[.int .i64 0, .int .u64 0, .slice none 0 0, .slice none 0 0, .int .i64 0] 59)
      simpa [Nat.add_assoc] using this
    obtain ⟨w4, hw4⟩ : ∃ w4, w4 = w3.alloc (.cells #[] 5) := ⟨_, rfl⟩
    have o4 : Only w3 w4 [] := by rw [hw4]; exact Only.alloc w3 _ []
    have b4 : w4.heap[w3.heap.size]? = some (.cells #[] 5 (0, 0)) := by rw [hw4]; exact heap_alloc_new w3 _
    obtain ⟨g, more, w5, hrun, b5, hg, hmore, o5⟩ := run_copy_bytes w4 w3.heap.size 28 _ b b4 (hv.only (o3.trans o4 (by simp))) (by omega)
    have hrun' := hrun
    rw [hz3] at hrun'
    clear hrun
    have o35 : Only w3 w5 [] := o4.trans o5 (by simp)
    have k0 : w5.heap[w.heap.size]? = some (.cells #[.int .i64 nodes, .int .u64 sent, .slice A way.length c, .slice A' boxes.length c', .int .i64 lost] 59 (0, 0)) := (o35.block _ (by omega) (by simp)).trans b0
    have k1 : w5.heap[w.heap.size + 1]? = some (.cells #[.int .i64 f, .int .i64 t, .int .u64 n, .slice Av b.length cv, .bool sp] 54 (0, 0)) := (o35.block _ (by omega) (by simp)).trans b1
    have k2 : w5.heap[w.heap.size + 1 + 1]? = some (.cells #[.int .i64 0, .int .u64 0, .slice none 0 0, .slice none 0 0, .int .i64 0] 59 (0, 0)) := (o35.block _ (by omega) (by simp)).trans b2
    obtain ⟨x0, x1, x2, x3, x4, xf0, xf1, xf2, xf3, xf4⟩ := blk5 b0
    obtain ⟨xx0, xx1, xx2, xx3, xx4, xxf0, xxf1, xxf2, xxf3, xxf4⟩ := blk5 k0
    obtain ⟨y0, y1, y2, y3, y4, yf0, yf1, yf2, yf3, yf4⟩ := blk5 k1
    obtain ⟨r0, r1, r2, r3, r4, rf0, rf1, rf2, rf3, rf4⟩ := blk5 k2
    have hl5 : w.heap.size + 1 + 1 < w5.heap.size := (Array.getElem?_eq_some_iff.1 k2).1
    have hfb : ((way.length : Int) == 1024) = false := by simp; omega
    have HW := Aside0.mk (And.intro o3 (And.intro o35 (And.intro b4 b5)))
    clear b0 b1 b2 b4 b5 o4 o5
    go_enter Try.func43, Try.ntmps43
    go_wp2_with (first
      | (at_builtin; rw [← hw3, ← hw4]; clear hw3 hw4; refine wpList_append_by rfl _ _ _ _ rfl _ _ rfl rfl _ _ hrun' ?_))
    clear x0 x1 x2 x3 x4 xf0 xf1 xf2 xf3 xf4 hrun'
    obtain ⟨w6, hw6⟩ : ∃ w6, w6 = w5.setCell ⟨w.heap.size + 1, 3, none⟩ (.slice (some ⟨g, 0, none⟩) b.length (b.length + more.length)) := ⟨_, rfl⟩
    obtain ⟨o3, o35, b4, b5⟩ := HW.out
    have o56 : Only w5 w6 [w.heap.size + 1] := by rw [hw6]; exact Only.setCell _ _ _
    have m0 : w6.heap[w.heap.size]? = some (.cells #[.int .i64 nodes, .int .u64 sent, .slice A way.length c, .slice A' boxes.length c', .int .i64 lost] 59 (0, 0)) := (o56.block _ (by omega) (by simp)).trans k0
    have m1 : w6.heap[w.heap.size + 1]? = some (.cells #[.int .i64 f, .int .i64 t, .int .u64 n, .slice (some ⟨g, 0, none⟩) b.length (b.length + more.length), .bool sp] 54 (0, 0)) := by
      rw [hw6, heap_setCell k1]
      rfl
    have m2 : w6.heap[w.heap.size + 1 + 1]? = some (.cells #[.int .i64 0, .int .u64 0, .slice none 0 0, .slice none 0 0, .int .i64 0] 59 (0, 0)) := (o56.block _ (by omega) (by simp)).trans k2
    have mg : w6.heap[g]? = some (.cells (b.map (Value.int .u8) ++ more).toArray 5 (0, 0)) := (o56.block _ (Array.getElem?_eq_some_iff.1 b5).1 (by simp; omega)).trans b5
    have o06 : Only w w6 [] := (o3.trans o35 (by simp)).trans o56 (by simp)
    have hs6 : w6.heap.size = w5.heap.size := by rw [hw6]; simp [World.setCell]
    have hbi : ∀ W, Only w6 W [] → BytesIn W (PX w P) (.slice (some ⟨g, 0, none⟩) b.length (b.length + more.length)) b := fun W hW => by
      refine ⟨⟨_, _, rfl, (fun h => by cases h), ?_⟩, fun a n c hv hb => ?_⟩
      · rintro ad ha j x hx
        cases ha
        have hh : W.heap[g]? = some (.cells (b.map (Value.int .u8) ++ more).toArray 5 (0, 0)) := (hW.block g (Array.getElem?_eq_some_iff.1 mg).1 (by simp)).trans mg
        have := row_cells (pre := []) (xs := b.map (Value.int .u8)) (post := more) (by simpa using hh) j (.int .u8 x) (by simp [hx])
        simpa using this
      · cases hv
        exact ⟨by show g ≠ _; omega, by show g ≠ _; omega, .inr (by show w.heap.size ≤ g; omega)⟩
    have hway : ∀ W, Only w6 W [] → RRow W (PX w P) (.slice A way.length c) way := fun W hW => h.way.px (o06.trans hW (by simp))
    have hall : ∀ W, Only w6 W [] → W.cell? ⟨w.heap.size + 1, 0, none⟩ = some (.int .i64 f) ∧ W.cell? ⟨w.heap.size + 1, 1, none⟩ = some (.int .i64 t) ∧ W.cell? ⟨w.heap.size + 1, 2, none⟩ = some (.int .u64 n) ∧ W.cell? ⟨w.heap.size + 1, 3, none⟩ = some (.slice (some ⟨g, 0, none⟩) b.length (b.length + more.length)) ∧ W.cell? ⟨w.heap.size + 1, 4, none⟩ = some (.bool sp) := fun W hW => by
      obtain ⟨q0, q1, q2, q3, q4, _⟩ := blk5 ((hW.block _ (Array.getElem?_eq_some_iff.1 m1).1 (by simp)).trans m1)
      exact ⟨q0, q1, q2, q3, q4⟩
    obtain ⟨E1, E2, E3⟩ := two_new w6 (.cells #[] 54) (.cells #[.int .i64 f, .int .i64 t, .int .u64 n, .slice (some ⟨g, 0, none⟩) b.length (b.length + more.length), .bool sp] 54)
    obtain ⟨D1, D2, D3⟩ := two_new w6 (.cells #[.int .i64 f, .int .i64 t, .int .u64 n, .slice (some ⟨g, 0, none⟩) b.length (b.length + more.length), .bool sp] 54) (.cells #[] 54)
    obtain ⟨z0, z1, z2, z3, z4, zf0, zf1, zf2, zf3, zf4⟩ := blk5 m0
    have hl6 : w.heap.size + 1 + 1 < w6.heap.size := (Array.getElem?_eq_some_iff.1 m2).1
    have hB : ∀ W, Only w6 W [] → w6.heap.size ≤ W.heap.size := fun W hW => hW.size
    have hn6 : w.heap.size ≤ w6.heap.size := by omega
    have hl6a : w.heap.size < w6.heap.size := by omega
    have hl6b : w.heap.size + 1 < w6.heap.size := by omega
    rw [← hw6]
    obtain ⟨d0, d1, d2, d3, d4⟩ := hall w6 (Only.refl _ _)
    clear hw6 hs6 k0 k1 k2 xx0 xx1 xx2 xx3 xx4 xxf0 xxf1 xxf2 xxf3 xxf4 y0 y1 y2 y3 y4 yf0 yf1 yf2 yf3 yf4 r0 r1 r2 r3 r4 rf0 rf1 rf2 rf3 rf4
    go_region_law
      (first
        | (refine step_append_rr (by rfl) _ _ (by rfl) _ _ (by rfl) (by rfl) (PX w P) w6.heap.size way [(⟨f, t, n, b, sp⟩, .slice (some ⟨g, 0, none⟩) b.length (b.length + more.length))] way.length (way.length + 1) rfl rfl (own_only p1 (by first | exact Only.refl _ _ | exact Only.alloc _ _ _)) (rr_one (by first | exact heap_alloc_new w7 _ | exact (p2.block _ (by first | (simp; done) | (simp; omega)) (by simp [bl, Value.ownBlock])).trans D2 | exact (p2.block _ (by first | (simp; done) | (simp; omega)) (by simp [bl, Value.ownBlock])).trans E3) (by refine ⟨?_, ?_, .inr ?_⟩ <;> omega) (hbi _ (by (repeat (first | (with_reducible assumption) | (with_reducible exact Only.refl _ _) | (with_reducible refine Only.allocs ?_ _) | (with_reducible refine Only.drews ?_))))) hdl hby) (hB _ (by (repeat (first | (with_reducible assumption) | (with_reducible exact Only.refl _ _) | (with_reducible refine Only.allocs ?_ _) | (with_reducible refine Only.drews ?_))))) (by omega) ?_
           intro A2 c2 w8 q1 q2
           have q3 : Only w6 w8 [] := Only.trans (ks := []) (by (repeat (first | (with_reducible assumption) | (with_reducible exact Only.refl _ _) | (with_reducible refine Only.allocs ?_ _) | (with_reducible refine Only.drews ?_)))) q2 (fun k hk => .inr (own_bl p1 k hk).1)
           obtain ⟨zz0, zz1, zz2, zz3, zz4, zzf0, zzf1, zzf2, zzf3, zzf4⟩ := blk5 ((q3.block _ (by omega) (by simp)).trans m0)
           obtain ⟨yy0, yy1, yy2, yy3, yy4, yyf0, yyf1, yyf2, yyf3, yyf4⟩ := blk5 ((q3.block _ (by omega) (by simp)).trans m2))
        | (refine step_append_rr (by rfl) _ _ (by rfl) _ _ (by rfl) (by rfl) (PX w P) w6.heap.size [] way 0 way.length rfl (by simp) (own_empty (by first | exact E1 | exact E2 | exact D3) (by first | exact Nat.le_refl _ | omega | (simp; done))) (hway _ (by (repeat (first | (with_reducible assumption) | (with_reducible exact Only.refl _ _) | (with_reducible refine Only.allocs ?_ _) | (with_reducible refine Only.drews ?_))))) (hB _ (by (repeat (first | (with_reducible assumption) | (with_reducible exact Only.refl _ _) | (with_reducible refine Only.allocs ?_ _) | (with_reducible refine Only.drews ?_))))) (by omega) ?_
           intro A1 c1 w7 p1 p2
           have p3 : Only w6 w7 [] := Only.trans (ks := []) (by (repeat (first | (with_reducible assumption) | (with_reducible exact Only.refl _ _) | (with_reducible refine Only.allocs ?_ _) | (with_reducible refine Only.drews ?_)))) p2 (fun k hk => .inr (by simp [bl, Value.ownBlock] at hk; omega))
           have p4 : w.heap.size ≤ w7.heap.size := Nat.le_trans hn6 p3.size
           obtain ⟨e0, e1, e2, e3, e4⟩ := hall w7 p3
           have p5 : w.heap.size + 1 + 1 < w7.heap.size := Nat.lt_of_lt_of_le hl6 p3.size
           have p5a : w.heap.size < w7.heap.size := Nat.lt_of_lt_of_le hl6a p3.size
           have p5b : w.heap.size + 1 < w7.heap.size := Nat.lt_of_lt_of_le hl6b p3.size))
    all_goals go_wp2
    all_goals (
      refine bodyPost_ret (v := refAgg ⟨nodes, sent, way ++ [(⟨f, t, n, b, sp⟩, .slice (some ⟨g, 0, none⟩) b.length (b.length + more.length))], boxes, lost⟩ (.slice A2 (way.length + 1) c2) (.slice A' boxes.length c')) (by simp [results, Try.results43, go_sem, yy0, yy1, yy2, yy3, yy4]) rfl ?_
      have hlen : (way ++ [((⟨f, t, n, b, sp⟩ : D0), Value.slice (some ⟨g, 0, none⟩) b.length (b.length + more.length))]).length = way.length + 1 := by simp
      refine ⟨⟨nodes, sent, way ++ [(⟨f, t, n, b, sp⟩, .slice (some ⟨g, 0, none⟩) b.length (b.length + more.length))], boxes, lost⟩, A2, c2, A', c', by dsimp only; rw [hlen], ?_⟩
      dsimp only
      rw [hlen]
      have r8 : RRow w8 (PX w P) (.slice A2 (way.length + 1) c2) (way ++ [(⟨f, t, n, b, sp⟩, .slice (some ⟨g, 0, none⟩) b.length (b.length + more.length))]) := RRow.own (B := w6.heap.size) (by rw [hlen]; exact q1) (fun k hk => ⟨by omega, by omega, .inr (by omega)⟩) (fun x hx => by
        rcases List.mem_append.1 hx with hx | hx
        · exact (h.way.px (o06.trans q3 (by simp))).bytes x hx
        · rw [List.mem_singleton.1 hx]
          exact ⟨hbi w8 q3, hdl, hby⟩)
      have b8 : RRow w8 (PX w P) (.slice A' boxes.length c') boxes := h.boxes.px (o06.trans q3 (by simp))
      have key : ∀ W', Only w8 W' [w.heap.size, w.heap.size + 1 + 1] → RAt W' (fun k => P k ∨ w.heap.size ≤ k) (.slice A2 (way.length + 1) c2) (.slice A' boxes.length c') ⟨nodes, sent, way ++ [(⟨f, t, n, b, sp⟩, .slice (some ⟨g, 0, none⟩) b.length (b.length + more.length))], boxes, lost⟩ ∧ Ref0.abs ⟨nodes, sent, way ++ [(⟨f, t, n, b, sp⟩, .slice (some ⟨g, 0, none⟩) b.length (b.length + more.length))], boxes, lost⟩ = ⟨nodes, sent, way.map (·.1) ++ [⟨f, t, n, b, sp⟩], boxes.map (·.1), lost⟩ ∧ Only w W' [] := fun W' oF =>
        ⟨⟨r8.out oF, b8.out oF⟩, by simp [Ref0.abs], (o06.trans q3 (by simp)).trans oF (by simp; omega)⟩
      refine key _ ?_
      (repeat (first | (with_reducible exact Only.refl _ _) | (with_reducible refine Only.setCells ?_ _ (by simp) _) | (with_reducible refine Only.drewk ?_))))
end Go.Proofs.Ytehgneiiajpgpaa
