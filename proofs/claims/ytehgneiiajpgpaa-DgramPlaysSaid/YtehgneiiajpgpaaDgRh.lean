/- dgram: the document's Do, a delivery. -/
import Derived.Test.YtehgneiiajpgpaaDgRg
namespace Go.Proofs.Ytehgneiiajpgpaa
open Go.RowKit
set_option linter.all false
set_option maxHeartbeats 40000000
set_option maxRecDepth 100000

def cntB (k : Int) (l : List D0) : Nat := (l.filter fun x => x.t == k).length
theorem cntB_map (k : Int) (l : List (D0 × Value)) : cntB k (l.map (·.1)) = cntT k l := by
  unfold cntB cntT
  rw [List.filter_map, List.length_map]
  rfl
def rdel0 (R : RA) (i : Int) : RA × Option D0 × Int := if rbad R i then (R, none, 92) else match R.way[i.toNat]? with
  | none => (R, none, 92)
  | some d => if cntB d.t R.boxes = 64 then ({ R with way := R.way.eraseIdx i.toNat, lost := wrap64 (R.lost + 1) }, none, 0) else ({ R with way := R.way.eraseIdx i.toNat, boxes := R.boxes ++ [d] }, none, 0)
theorem rdo_1 (w : World) (P : Nat → Prop) (A A' : Option Addr) (c c' : Nat) (M : Ref0) (h : RAt w P (.slice A M.way.length c) (.slice A' M.boxes.length c') M) (hl : M.way.length ≤ 1024) (hlb : M.boxes.length ≤ 99999) (o : Op0) (hkd : o.kd = 1) (Ab : Option Addr) (cb nb : Nat) :
    Calls Try.prog 24 #[refAgg M (.slice A M.way.length c) (.slice A' M.boxes.length c'), .agg (opCells o Ab nb cb)] w (RDid w P (rdel0 M.abs o.i)) := by
  obtain ⟨kd, f, t, i, at', m⟩ := o
  obtain rfl : kd = 1 := hkd
  obtain ⟨nodes, sent, way, boxes, lost⟩ := M
  dsimp only at h hl hlb ⊢
  obtain ⟨w5, hw5⟩ : ∃ w5, w5 = doW w #[.int .i64 nodes, .int .u64 sent, .slice A way.length c, .slice A' boxes.length c', .int .i64 lost] (opCells ⟨1, f, t, i, at', m⟩ Ab nb cb) := ⟨_, rfl⟩
  have o5 : Only w w5 [] := by rw [hw5]; exact doW_only w _ _
  have d5 : DoAt w5 w.heap.size #[.int .i64 nodes, .int .u64 sent, .slice A way.length c, .slice A' boxes.length c', .int .i64 lost] (opCells ⟨1, f, t, i, at', m⟩ Ab nb cb) := by rw [hw5]; exact doW_at w _ _
  have hbo := fun W (hW : Only w W []) => RDid.same (W := W) (M := ⟨nodes, sent, way, boxes, lost⟩) h hW
  have HS := Aside0.mk hbo
  have HH := Aside0.mk h
  clear hbo
  have HD5 := Aside0.mk d5
  have ho := hw5
  unfold doW at hw5
  have hwo := fun W (hW : Only w W []) n hn => without_c W (fun k => P k ∧ k < w.heap.size) (.slice A way.length c) way (h.old.way.only hW) n hn (by omega)
  have HWO := Aside0.mk hwo
  clear hwo
  by_cases h0 : i < 0
  · have e0 : rdel0 (Ref0.abs ⟨nodes, sent, way, boxes, lost⟩) i = (Ref0.abs ⟨nodes, sent, way, boxes, lost⟩, none, 92) := by unfold rdel0; rw [if_pos (.inl h0)]
    rw [e0]
    clear e0
    go_enter Try.func24, Try.ntmps24
    go_wp2
    go_region
    all_goals go_wp2
    all_goals (
      refine bodyPost_ret (v := .tuple #[refAgg ⟨nodes, sent, way, boxes, lost⟩ (.slice A way.length c) (.slice A' boxes.length c'), zeroDg, .bool false, .int .i64 92]) (by simp [results, Try.results24, go_sem, zeroDg, *]) rfl (HS.out _ ?_ _)
      (repeat (first | (with_reducible assumption) | (with_reducible exact Only.refl _ _) | (with_reducible refine Only.allocs ?_ _) | (with_reducible refine Only.drews ?_) | (with_reducible refine Only.setNew ?_ _ (by dsimp only; omega) _))))
  by_cases h1 : (way.length : Int) ≤ i
  · have e0 : rdel0 (Ref0.abs ⟨nodes, sent, way, boxes, lost⟩) i = (Ref0.abs ⟨nodes, sent, way, boxes, lost⟩, none, 92) := by unfold rdel0; rw [if_pos (.inr (by simpa [Ref0.abs] using h1))]
    rw [e0]
    clear e0
    have z1 : (0 : Int) ≤ i := by omega
    go_enter Try.func24, Try.ntmps24
    go_wp2
    go_region
    all_goals go_wp2
    all_goals (
      refine bodyPost_ret (v := .tuple #[refAgg ⟨nodes, sent, way, boxes, lost⟩ (.slice A way.length c) (.slice A' boxes.length c'), zeroDg, .bool false, .int .i64 92]) (by simp [results, Try.results24, go_sem, zeroDg, *]) rfl (HS.out _ ?_ _)
      (repeat (first | (with_reducible assumption) | (with_reducible exact Only.refl _ _) | (with_reducible refine Only.allocs ?_ _) | (with_reducible refine Only.drews ?_) | (with_reducible refine Only.setNew ?_ _ (by dsimp only; omega) _))))
  obtain ⟨n, rfl⟩ : ∃ n : Nat, i = n := ⟨i.toNat, by omega⟩
  have hn : n < way.length := by omega
  obtain ⟨⟨dx, vx⟩, hx⟩ : ∃ x, way[n]? = some x := ⟨_, List.getElem?_eq_getElem hn⟩
  have hgood : ¬ rbad (Ref0.abs ⟨nodes, sent, way, boxes, lost⟩) (n : Int) := by unfold rbad; simp [Ref0.abs]; omega
  have hdx : (Ref0.abs ⟨nodes, sent, way, boxes, lost⟩).way[n]? = some dx := by simp [Ref0.abs, hx]
  obtain ⟨⟨_, _, hv, hcc, hel⟩, hby⟩ := h.way.only o5
  obtain ⟨g, off, ha, _, hcell⟩ := hel n _ hx
  obtain ⟨⟨⟨Ax, cx, hvx, _⟩, _⟩, hdl, hdy⟩ := hby _ (List.mem_of_getElem? hx)
  dsimp only at hvx hdl hdy
  subst hvx
  simp only [Value.slice.injEq] at hv
  obtain ⟨rfl, _, rfl⟩ := hv
  subst ha
  have p0 : w5.cell? ⟨g, off + n * 5, none⟩ = some (.int .i64 dx.f) := hcell 0 _ rfl
  have p1 : w5.cell? ⟨g, off + n * 5 + 1, none⟩ = some (.int .i64 dx.t) := hcell 1 _ rfl
  have p2 : w5.cell? ⟨g, off + n * 5 + 2, none⟩ = some (.int .u64 dx.n) := hcell 2 _ rfl
  have p3 : w5.cell? ⟨g, off + n * 5 + 3, none⟩ = some (.slice Ax dx.b.length cx) := hcell 3 _ rfl
  have p4 : w5.cell? ⟨g, off + n * 5 + 4, none⟩ = some (.bool dx.sp) := hcell 4 _ rfl
  have hmem := List.mem_of_getElem? hx
  have HMEM := Aside0.mk hmem
  have hN := Aside0.mk hn
  have z0 : (n : Int) < (way.length : Int) := by omega
  have z1 : (0 : Int) ≤ (n : Int) := by omega
  have hlw : (way.length : Int) ≤ 1024 := by omega
  have h5z : w.heap.size + 1 + 1 + 1 < w5.heap.size := by have := (Array.getElem?_eq_some_iff.1 d5.b4).1; omega
  have hlen : (way.eraseIdx n).length = way.length - 1 := by rw [List.length_eraseIdx]; simp [hn]
  have HLEN := Aside0.mk hlen
  have H5Z := Aside0.mk h5z
  clear hcell hel hby hmem h5z hlen hn
  rw [hw5] at p0 p1 p2 p3 p4
  have hbx := fun W (hW : Only w W []) A8 c8 => rbox_c W P ⟨nodes, sent, way.eraseIdx n, boxes, lost⟩ (.slice A8 (way.length - 1) c8) (.slice A' boxes.length c') dx.t (h.boxes.only hW) (by show boxes.length ≤ 100000; omega)
  dsimp only at hbx
  have hd8 : ∀ W, Only (w5.alloc (.cells #[.int .i64 dx.f, .int .i64 dx.t, .int .u64 dx.n, .slice Ax dx.b.length cx, .bool dx.sp] 54)) W [] → W.heap[w.heap.size + 1 + 1 + 1 + 1 + 1]? = some (.cells #[.int .i64 dx.f, .int .i64 dx.t, .int .u64 dx.n, .slice Ax dx.b.length cx, .bool dx.sp] 54 (0, 0)) := fun W hW => by
    have hz5 : w5.heap.size = w.heap.size + 1 + 1 + 1 + 1 + 1 := by rw [hw5]; simp
    have b5 := heap_alloc_new w5 (.cells #[.int .i64 dx.f, .int .i64 dx.t, .int .u64 dx.n, .slice Ax dx.b.length cx, .bool dx.sp] 54)
    rw [← hz5]
    exact (hW.block _ (by simp) (by simp)).trans b5
  have HD8 := Aside0.mk hd8
  clear hd8
  by_cases h64 : cntT dx.t boxes = 64
  · have e0 : rdel0 (Ref0.abs ⟨nodes, sent, way, boxes, lost⟩) (n : Int) = (⟨nodes, sent, (way.map (·.1)).eraseIdx n, boxes.map (·.1), wrap64 (lost + 1)⟩, none, 0) := by
      unfold rdel0
      rw [if_neg hgood, Int.toNat_natCast, hdx]
      have hb : cntB dx.t (Ref0.abs ⟨nodes, sent, way, boxes, lost⟩).boxes = 64 := (cntB_map dx.t boxes).trans h64
      dsimp only
      rw [if_pos hb]
      rfl
    rw [e0]
    rw [h64] at hbx
    have HBX := Aside0.mk hbx
    clear e0 hgood hdx hbx h64
    go_enter Try.func24, Try.ntmps24
    go_wp2_with (first
      | (go_at_call 27; refine (HBX.out _ (by (repeat (first | (with_reducible assumption) | (with_reducible exact Only.refl _ _) | (with_reducible refine Only.allocs ?_ _) | (with_reducible refine Only.drews ?_) | (with_reducible refine Only.setNew ?_ _ (by dsimp only; omega) _)))) _ _).mono ?_; rintro e w9 ⟨rfl, o9⟩; have ob9 : Only w w9 [] := Only.trans (by (repeat (first | (with_reducible assumption) | (with_reducible exact Only.refl _ _) | (with_reducible refine Only.allocs ?_ _) | (with_reducible refine Only.drews ?_) | (with_reducible refine Only.setNew ?_ _ (by dsimp only; omega) _)))) o9 (by simp); have d7 := (DoAt.mk (heap_setCell d6.b0 2 (.slice A8 (way.length - 1) c8)) (((Only.setCell w8 ⟨w.heap.size, 2, none⟩ (.slice A8 (way.length - 1) c8)).block _ (Array.getElem?_eq_some_iff.1 d6.b1).1 (by simp)).trans d6.b1) (((Only.setCell w8 ⟨w.heap.size, 2, none⟩ (.slice A8 (way.length - 1) c8)).block _ (Array.getElem?_eq_some_iff.1 d6.b2).1 (by simp; omega)).trans d6.b2) (((Only.setCell w8 ⟨w.heap.size, 2, none⟩ (.slice A8 (way.length - 1) c8)).block _ (Array.getElem?_eq_some_iff.1 d6.b3).1 (by simp; omega)).trans d6.b3) (((Only.setCell w8 ⟨w.heap.size, 2, none⟩ (.slice A8 (way.length - 1) c8)).block _ (Array.getElem?_eq_some_iff.1 d6.b4).1 (by simp; omega)).trans d6.b4)).quiet o9; have o89 : Only w8 w9 [w.heap.size, w.heap.size + 1 + 1, w.heap.size + 1 + 1 + 1] := ((Only.refl w8 _).setCells ⟨w.heap.size, 2, none⟩ (by simp) (.slice A8 (way.length - 1) c8)).trans o9 (by simp); obtain ⟨t00, t01, t02, t03, t04, tf00, tf01, tf02, tf03, tf04⟩ := blk5 d7.b0; obtain ⟨t10, t11, t12, t13, t14, t15, t16⟩ := blk7 d7.b1; obtain ⟨t20, t21, t22, t23, t24, tf20, tf21, tf22, tf23, tf24⟩ := blk5 d7.b2; obtain ⟨t30, t31, t32, t33, t34, tf30, tf31, tf32, tf33, tf34⟩ := blk5 d7.b3; obtain ⟨t40, t41, t42, t43, t44, tf40, tf41, tf42, tf43, tf44⟩ := blk5 d7.b4)
      | (go_at_call 44; rw [← hw5]; refine (HWO.out _ (o5.trans (Only.alloc w5 _ []) (by simp)) n hN.out).mono ?_; rintro e w8 ⟨A8, c8, rfl, hR8, o8⟩; have d6 := HD5.out.quiet ((Only.alloc w5 _ []).trans o8 (by simp)); have HR8 := Aside0.mk hR8; clear hR8; have ob8 : Only w w8 [] := (o5.trans (Only.alloc w5 _ []) (by simp)).trans o8 (by simp); obtain ⟨v0, v1, v2, v3, v4, _⟩ := blk5 (HD8.out _ o8); clear hw5 p0 p1 p2 p3 p4; obtain ⟨z00, z01, z02, z03, z04, zf00, zf01, zf02, zf03, zf04⟩ := blk5 d6.b0; obtain ⟨z10, z11, z12, z13, z14, z15, z16⟩ := blk7 d6.b1; obtain ⟨z20, z21, z22, z23, z24, zf20, zf21, zf22, zf23, zf24⟩ := blk5 d6.b2; obtain ⟨z30, z31, z32, z33, z34, zf30, zf31, zf32, zf33, zf34⟩ := blk5 d6.b3; obtain ⟨z40, z41, z42, z43, z44, zf40, zf41, zf42, zf43, zf44⟩ := blk5 d6.b4))
    go_region
    all_goals go_wp2
    all_goals (
      have key : ∀ W', Only w9 W' [w.heap.size, w.heap.size + 1 + 1, w.heap.size + 1 + 1 + 1] → RDid w P (⟨nodes, sent, (way.map (·.1)).eraseIdx n, boxes.map (·.1), wrap64 (lost + 1)⟩, none, 0) (.returned (.tuple #[refAgg ⟨nodes, sent, way.eraseIdx n, boxes, wrap64 (lost + 1)⟩ (.slice A8 (way.length - 1) c8) (.slice A' boxes.length c'), zeroDg, .bool false, .int .i64 0])) W' := fun W' oF => by
        refine ⟨⟨nodes, sent, way.eraseIdx n, boxes, wrap64 (lost + 1)⟩, A8, c8, A', c', zeroDg, by dsimp only; rw [HLEN.out]; rfl, ⟨?_, ?_⟩, ?_, ob9.doEnd3 oF, rfl⟩
        · dsimp only
          rw [HLEN.out]
          exact HR8.out.doEnd3 (by rw [size_alloc1]; have := H5Z.out; omega) (o89.trans oF (fun k hk => .inl hk))
        · exact ((HH.out.old.boxes.only ob9).to (Q := fun k => (P k ∧ k < w.heap.size) ∨ w.heap.size + 1 + 1 + 1 + 1 ≤ k) (fun k _ hk => .inl hk)).doEnd3 (by omega) oF
        · simp [Ref0.abs, map_eraseIdx0]
      refine bodyPost_ret (v := .tuple #[refAgg ⟨nodes, sent, way.eraseIdx n, boxes, wrap64 (lost + 1)⟩ (.slice A8 (way.length - 1) c8) (.slice A' boxes.length c'), zeroDg, .bool false, .int .i64 0]) (by simp [results, Try.results24, go_sem, zeroDg, *]) rfl (key _ ?_)
      (repeat (first | (with_reducible exact Only.refl _ _) | (with_reducible refine Only.setCells ?_ _ (by simp) _) | (with_reducible refine Only.drewk ?_))))
  · have e0 : rdel0 (Ref0.abs ⟨nodes, sent, way, boxes, lost⟩) (n : Int) = (⟨nodes, sent, (way.map (·.1)).eraseIdx n, boxes.map (·.1) ++ [dx], lost⟩, none, 0) := by
      unfold rdel0
      rw [if_neg hgood, Int.toNat_natCast, hdx]
      have hb : ¬ cntB dx.t (Ref0.abs ⟨nodes, sent, way, boxes, lost⟩).boxes = 64 := by rw [show cntB dx.t (Ref0.abs ⟨nodes, sent, way, boxes, lost⟩).boxes = cntT dx.t boxes from cntB_map dx.t boxes]; exact h64
      dsimp only
      rw [if_neg hb]
      rfl
    rw [e0]
    obtain ⟨cn, hcn⟩ : ∃ cn, cntT dx.t boxes = cn := ⟨_, rfl⟩
    rw [hcn] at hbx h64
    have h64b : ((cn : Int) == 64) = false := by simp; omega
    have HBX := Aside0.mk hbx
    clear e0 hgood hdx hbx h64 hcn
    go_enter Try.func24, Try.ntmps24
    go_wp2_with (first
      | (go_at_call 27; refine (HBX.out _ (by (repeat (first | (with_reducible assumption) | (with_reducible exact Only.refl _ _) | (with_reducible refine Only.allocs ?_ _) | (with_reducible refine Only.drews ?_) | (with_reducible refine Only.setNew ?_ _ (by dsimp only; omega) _)))) _ _).mono ?_; rintro e w9 ⟨rfl, o9⟩; have ob9 : Only w w9 [] := Only.trans (by (repeat (first | (with_reducible assumption) | (with_reducible exact Only.refl _ _) | (with_reducible refine Only.allocs ?_ _) | (with_reducible refine Only.drews ?_) | (with_reducible refine Only.setNew ?_ _ (by dsimp only; omega) _)))) o9 (by simp); have d7 := (DoAt.mk (heap_setCell d6.b0 2 (.slice A8 (way.length - 1) c8)) (((Only.setCell w8 ⟨w.heap.size, 2, none⟩ (.slice A8 (way.length - 1) c8)).block _ (Array.getElem?_eq_some_iff.1 d6.b1).1 (by simp)).trans d6.b1) (((Only.setCell w8 ⟨w.heap.size, 2, none⟩ (.slice A8 (way.length - 1) c8)).block _ (Array.getElem?_eq_some_iff.1 d6.b2).1 (by simp; omega)).trans d6.b2) (((Only.setCell w8 ⟨w.heap.size, 2, none⟩ (.slice A8 (way.length - 1) c8)).block _ (Array.getElem?_eq_some_iff.1 d6.b3).1 (by simp; omega)).trans d6.b3) (((Only.setCell w8 ⟨w.heap.size, 2, none⟩ (.slice A8 (way.length - 1) c8)).block _ (Array.getElem?_eq_some_iff.1 d6.b4).1 (by simp; omega)).trans d6.b4)).quiet o9; have o89 : Only w8 w9 [w.heap.size, w.heap.size + 1 + 1, w.heap.size + 1 + 1 + 1] := ((Only.refl w8 _).setCells ⟨w.heap.size, 2, none⟩ (by simp) (.slice A8 (way.length - 1) c8)).trans o9 (by simp); have hl9 : w.heap.size + 1 + 1 + 1 + 1 + 1 < w8.heap.size := (Array.getElem?_eq_some_iff.1 (HD8.out _ o8)).1; have b9 := (o89.block (w.heap.size + 1 + 1 + 1 + 1 + 1) hl9 (by simp; try omega)).trans (HD8.out _ o8); obtain ⟨u0, u1, u2, u3, u4, _⟩ := blk5 b9; obtain ⟨t00, t01, t02, t03, t04, tf00, tf01, tf02, tf03, tf04⟩ := blk5 d7.b0; obtain ⟨t10, t11, t12, t13, t14, t15, t16⟩ := blk7 d7.b1; obtain ⟨t20, t21, t22, t23, t24, tf20, tf21, tf22, tf23, tf24⟩ := blk5 d7.b2; obtain ⟨t30, t31, t32, t33, t34, tf30, tf31, tf32, tf33, tf34⟩ := blk5 d7.b3; obtain ⟨t40, t41, t42, t43, t44, tf40, tf41, tf42, tf43, tf44⟩ := blk5 d7.b4)
      | (go_at_call 44; rw [← hw5]; refine (HWO.out _ (o5.trans (Only.alloc w5 _ []) (by simp)) n hN.out).mono ?_; rintro e w8 ⟨A8, c8, rfl, hR8, o8⟩; have d6 := HD5.out.quiet ((Only.alloc w5 _ []).trans o8 (by simp)); have HR8 := Aside0.mk hR8; clear hR8; have ob8 : Only w w8 [] := (o5.trans (Only.alloc w5 _ []) (by simp)).trans o8 (by simp); obtain ⟨v0, v1, v2, v3, v4, _⟩ := blk5 (HD8.out _ o8); clear hw5 p0 p1 p2 p3 p4; obtain ⟨z00, z01, z02, z03, z04, zf00, zf01, zf02, zf03, zf04⟩ := blk5 d6.b0; obtain ⟨z10, z11, z12, z13, z14, z15, z16⟩ := blk7 d6.b1; obtain ⟨z20, z21, z22, z23, z24, zf20, zf21, zf22, zf23, zf24⟩ := blk5 d6.b2; obtain ⟨z30, z31, z32, z33, z34, zf30, zf31, zf32, zf33, zf34⟩ := blk5 d6.b3; obtain ⟨z40, z41, z42, z43, z44, zf40, zf41, zf42, zf43, zf44⟩ := blk5 d6.b4))
    have q9 : w.heap.size + 1 + 1 + 1 + 1 + 1 < w9.heap.size := (Array.getElem?_eq_some_iff.1 b9).1
    have q9a : w.heap.size < w9.heap.size := by omega
    have q9b : w.heap.size + 1 < w9.heap.size := by omega
    have hbox : ∀ W, Only w9 W [] → RRow W (fun k => (P k ∧ k < w.heap.size) ∨ w.heap.size + 1 + 1 + 1 + 1 ≤ k) (.slice A' boxes.length c') boxes := fun W hW => (HH.out.old.boxes.only (ob9.trans hW (by simp))).to (fun k _ hk => .inl hk)
    have hbi : ∀ W, Only w9 W [] → BytesIn W (fun k => (P k ∧ k < w.heap.size) ∨ w.heap.size + 1 + 1 + 1 + 1 ≤ k) (.slice Ax dx.b.length cx) dx.b := fun W hW => ((HH.out.old.way.bytes _ HMEM.out).1.only (ob9.trans hW (by simp))).to (fun k _ hk => .inl hk)
    obtain ⟨E1, E2, E3⟩ := two_new w9 (.cells #[] 54) (.cells #[.int .i64 dx.f, .int .i64 dx.t, .int .u64 dx.n, .slice Ax dx.b.length cx, .bool dx.sp] 54)
    obtain ⟨D1, D2, D3⟩ := two_new w9 (.cells #[.int .i64 dx.f, .int .i64 dx.t, .int .u64 dx.n, .slice Ax dx.b.length cx, .bool dx.sp] 54) (.cells #[] 54)
    have hB : ∀ W, Only w9 W [] → w9.heap.size ≤ W.heap.size := fun W hW => hW.size
    have hcell9 : ∀ W, Only w9 W [] → W.heap[w.heap.size + 1 + 1 + 1 + 1 + 1]? = some (.cells #[.int .i64 dx.f, .int .i64 dx.t, .int .u64 dx.n, .slice Ax dx.b.length cx, .bool dx.sp] 54 (0, 0)) := fun W hW => (hW.block _ q9 (by simp)).trans b9
    have HCELL := Aside0.mk hcell9
    have B9 := Aside0.mk b9
    clear b9 hcell9 hl9
    go_region_law (first
        | (refine step_append_rr (by rfl) _ _ (by rfl) _ _ (by rfl) (by rfl) (fun k => (P k ∧ k < w.heap.size) ∨ w.heap.size + 1 + 1 + 1 + 1 ≤ k) w9.heap.size boxes [(dx, .slice Ax dx.b.length cx)] boxes.length (boxes.length + 1) rfl rfl (own_only p1 (by first | exact Only.refl _ _ | exact Only.alloc _ _ _)) (rr_one (by first | exact heap_alloc_new w10 _ | exact (p2.block _ (by first | (simp; done) | (simp; omega)) (by simp [bl, Value.ownBlock])).trans D2 | exact (p2.block _ (by first | (simp; done) | (simp; omega)) (by simp [bl, Value.ownBlock])).trans E3) (.inr (by omega)) (hbi _ (by (repeat (first | (with_reducible assumption) | (with_reducible exact Only.refl _ _) | (with_reducible refine Only.allocs ?_ _) | (with_reducible refine Only.drews ?_))))) hdl hdy) (hB _ (by (repeat (first | (with_reducible assumption) | (with_reducible exact Only.refl _ _) | (with_reducible refine Only.allocs ?_ _) | (with_reducible refine Only.drews ?_))))) (by omega) ?_
           intro A2 c2 w11 q1 q2
           have q3 : Only w9 w11 [] := Only.trans (ks := []) (by (repeat (first | (with_reducible assumption) | (with_reducible exact Only.refl _ _) | (with_reducible refine Only.allocs ?_ _) | (with_reducible refine Only.drews ?_)))) q2 (fun k hk => .inr (own_bl p1 k hk).1)
           have d6 := d7.quiet q3
           obtain ⟨z00, z01, z02, z03, z04, zf00, zf01, zf02, zf03, zf04⟩ := blk5 d6.b0; obtain ⟨z10, z11, z12, z13, z14, z15, z16⟩ := blk7 d6.b1; obtain ⟨z20, z21, z22, z23, z24, zf20, zf21, zf22, zf23, zf24⟩ := blk5 d6.b2; obtain ⟨z30, z31, z32, z33, z34, zf30, zf31, zf32, zf33, zf34⟩ := blk5 d6.b3; obtain ⟨z40, z41, z42, z43, z44, zf40, zf41, zf42, zf43, zf44⟩ := blk5 d6.b4)
        | (refine step_append_rr (by rfl) _ _ (by rfl) _ _ (by rfl) (by rfl) (fun k => (P k ∧ k < w.heap.size) ∨ w.heap.size + 1 + 1 + 1 + 1 ≤ k) w9.heap.size [] boxes 0 boxes.length rfl (by simp) (own_empty (by first | exact E1 | exact E2 | exact D3) (by first | exact Nat.le_refl _ | omega | (simp; done))) (hbox _ (by (repeat (first | (with_reducible assumption) | (with_reducible exact Only.refl _ _) | (with_reducible refine Only.allocs ?_ _) | (with_reducible refine Only.drews ?_))))) (hB _ (by (repeat (first | (with_reducible assumption) | (with_reducible exact Only.refl _ _) | (with_reducible refine Only.allocs ?_ _) | (with_reducible refine Only.drews ?_))))) (by omega) ?_
           intro A1 c1 w10 p1 p2
           have p3 : Only w9 w10 [] := Only.trans (ks := []) (by (repeat (first | (with_reducible assumption) | (with_reducible exact Only.refl _ _) | (with_reducible refine Only.allocs ?_ _) | (with_reducible refine Only.drews ?_)))) p2 (fun k hk => .inr (by simp [bl, Value.ownBlock] at hk; omega))
           have p4 : w9.heap.size ≤ w10.heap.size := p3.size
           obtain ⟨e0, e1, e2, e3, e4, _⟩ := blk5 (HCELL.out w10 p3)
           have p5 : w.heap.size + 1 + 1 + 1 + 1 + 1 < w10.heap.size := Nat.lt_of_lt_of_le q9 p3.size
           have p5a : w.heap.size < w10.heap.size := Nat.lt_of_lt_of_le q9a p3.size
           have p5b : w.heap.size + 1 < w10.heap.size := Nat.lt_of_lt_of_le q9b p3.size))
    all_goals go_wp2
    all_goals go_region
    all_goals go_wp2
    all_goals (
      have hlen2 : (boxes ++ [((dx : D0), Value.slice Ax dx.b.length cx)]).length = boxes.length + 1 := by simp
      have r11 : RRow w11 (fun k => (P k ∧ k < w.heap.size) ∨ w.heap.size + 1 + 1 + 1 + 1 ≤ k) (.slice A2 (boxes.length + 1) c2) (boxes ++ [(dx, .slice Ax dx.b.length cx)]) := RRow.own (B := w9.heap.size) (by rw [hlen2]; exact q1) (fun k hk => .inr (by omega)) (fun x hx => by
        rcases List.mem_append.1 hx with hx | hx
        · exact (hbox w11 q3).bytes x hx
        · rw [List.mem_singleton.1 hx]
          exact ⟨hbi w11 q3, hdl, hdy⟩)
      have key : ∀ W', Only w11 W' [w.heap.size, w.heap.size + 1 + 1, w.heap.size + 1 + 1 + 1] → RDid w P (⟨nodes, sent, (way.map (·.1)).eraseIdx n, boxes.map (·.1) ++ [dx], lost⟩, none, 0) (.returned (.tuple #[refAgg ⟨nodes, sent, way.eraseIdx n, boxes ++ [(dx, .slice Ax dx.b.length cx)], lost⟩ (.slice A8 (way.length - 1) c8) (.slice A2 (boxes.length + 1) c2), zeroDg, .bool false, .int .i64 0])) W' := fun W' oF => by
        refine ⟨⟨nodes, sent, way.eraseIdx n, boxes ++ [(dx, .slice Ax dx.b.length cx)], lost⟩, A8, c8, A2, c2, zeroDg, by dsimp only; rw [HLEN.out, hlen2]; rfl, ⟨?_, ?_⟩, ?_, (ob9.trans q3 (by simp)).doEnd3 oF, rfl⟩
        · dsimp only
          rw [HLEN.out]
          exact HR8.out.doEnd3 (by rw [size_alloc1]; have := H5Z.out; omega) ((o89.trans q3 (by simp)).trans oF (fun k hk => .inl hk))
        · dsimp only
          rw [hlen2]
          exact r11.doEnd3 (by omega) oF
        · simp [Ref0.abs, map_eraseIdx0]
      refine bodyPost_ret (v := .tuple #[refAgg ⟨nodes, sent, way.eraseIdx n, boxes ++ [(dx, .slice Ax dx.b.length cx)], lost⟩ (.slice A8 (way.length - 1) c8) (.slice A2 (boxes.length + 1) c2), zeroDg, .bool false, .int .i64 0]) (by simp [results, Try.results24, go_sem, zeroDg, z20, z21, z22, z23, z24, z30, z31, z32, z33, z34]) rfl (key _ ?_)
      (repeat (first | (with_reducible exact Only.refl _ _) | (with_reducible refine Only.setCells ?_ _ (by simp) _) | (with_reducible refine Only.drewk ?_))))
end Go.Proofs.Ytehgneiiajpgpaa
