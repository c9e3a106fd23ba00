/- dgram: the document's Do, a twin. -/
import Derived.Test.YtehgneiiajpgpaaDgRf
namespace Go.Proofs.Ytehgneiiajpgpaa
open Go.RowKit
set_option linter.all false
set_option maxHeartbeats 2000000
set_option maxRecDepth 100000

def rtwin0 (R : RA) (i : Int) : RA × Option D0 × Int := if rbad R i then (R, none, 92) else match R.way[i.toNat]? with
  | none => (R, none, 92)
  | some d => (rput0 R d, none, 0)
theorem rdo_3 (w : World) (P : Nat → Prop) (A A' : Option Addr) (c c' : Nat) (M : Ref0) (h : RAt w P (.slice A M.way.length c) (.slice A' M.boxes.length c') M) (hl : M.way.length ≤ 1024) (hlb : M.boxes.length ≤ 99999) (o : Op0) (hkd : o.kd = 3) (Ab : Option Addr) (cb nb : Nat) :
    Calls Try.prog 24 #[refAgg M (.slice A M.way.length c) (.slice A' M.boxes.length c'), .agg (opCells o Ab nb cb)] w (RDid w P (rtwin0 M.abs o.i)) := by
  obtain ⟨kd, f, t, i, at', m⟩ := o
  obtain rfl : kd = 3 := hkd
  obtain ⟨nodes, sent, way, boxes, lost⟩ := M
  dsimp only at h hl hlb ⊢
  obtain ⟨w5, hw5⟩ : ∃ w5, w5 = doW w #[.int .i64 nodes, .int .u64 sent, .slice A way.length c, .slice A' boxes.length c', .int .i64 lost] (opCells ⟨3, f, t, i, at', m⟩ Ab nb cb) := ⟨_, rfl⟩
  have o5 : Only w w5 [] := by rw [hw5]; exact doW_only w _ _
  have d5 : DoAt w5 w.heap.size #[.int .i64 nodes, .int .u64 sent, .slice A way.length c, .slice A' boxes.length c', .int .i64 lost] (opCells ⟨3, f, t, i, at', m⟩ Ab nb cb) := by rw [hw5]; exact doW_at w _ _
  have hbo := fun W (hW : Only w W []) => RDid.same (W := W) (M := ⟨nodes, sent, way, boxes, lost⟩) h hW
  have HS := Aside0.mk hbo
  have HH := Aside0.mk h
  clear hbo
  have HD5 := Aside0.mk d5
  have ho := hw5
  unfold doW at hw5
  by_cases h0 : i < 0
  · have e0 : rtwin0 (Ref0.abs ⟨nodes, sent, way, boxes, lost⟩) i = (Ref0.abs ⟨nodes, sent, way, boxes, lost⟩, none, 92) := by unfold rtwin0; rw [if_pos (.inl h0)]
    rw [e0]
    clear e0
    go_enter Try.func24, Try.ntmps24
    go_wp2
    go_region
    all_goals go_wp2
    all_goals (
      refine bodyPost_ret (v := .tuple #[refAgg ⟨nodes, sent, way, boxes, lost⟩ (.slice A way.length c) (.slice A' boxes.length c'), zeroDg, .bool false, .int .i64 92]) (by simp [results, Try.results24, go_sem, zeroDg, *]) rfl (HS.out _ ?_ _)
      (repeat (first | (with_reducible assumption) | (with_reducible exact Only.refl _ _) | (with_reducible refine Only.allocs ?_ _) | (with_reducible refine Only.drews ?_) | (with_reducible refine Only.setNew ?_ _ (by dsimp only; omega) _))))
  by_cases h1 : (way.length : Int) ≤ i
  · have e0 : rtwin0 (Ref0.abs ⟨nodes, sent, way, boxes, lost⟩) i = (Ref0.abs ⟨nodes, sent, way, boxes, lost⟩, none, 92) := by unfold rtwin0; rw [if_pos (.inr (by simpa [Ref0.abs] using h1))]
    rw [e0]
    clear e0
    have z1 : (0 : Int) ≤ i := by omega
    go_enter Try.func24, Try.ntmps24
    go_wp2
    go_region
    all_goals go_wp2
    all_goals (
      refine bodyPost_ret (v := .tuple #[refAgg ⟨nodes, sent, way, boxes, lost⟩ (.slice A way.length c) (.slice A' boxes.length c'), zeroDg, .bool false, .int .i64 92]) (by simp [results, Try.results24, go_sem, zeroDg, *]) rfl (HS.out _ ?_ _)
      (repeat (first | (with_reducible assumption) | (with_reducible exact Only.refl _ _) | (with_reducible refine Only.allocs ?_ _) | (with_reducible refine Only.drews ?_) | (with_reducible refine Only.setNew ?_ _ (by dsimp only; omega) _))))
  obtain ⟨n, rfl⟩ : ∃ n : Nat, i = n := ⟨i.toNat, by omega⟩
  have hn : n < way.length := by omega
  obtain ⟨⟨dx, vx⟩, hx⟩ : ∃ x, way[n]? = some x := ⟨_, List.getElem?_eq_getElem hn⟩
  have hgood : ¬ rbad (Ref0.abs ⟨nodes, sent, way, boxes, lost⟩) (n : Int) := by unfold rbad; simp [Ref0.abs]; omega
  have hdx : (Ref0.abs ⟨nodes, sent, way, boxes, lost⟩).way[n]? = some dx := by simp [Ref0.abs, hx]
  obtain ⟨⟨_, _, hv, hcc, hel⟩, hby⟩ := h.way.only o5
  obtain ⟨g, off, ha, _, hcell⟩ := hel n _ hx
  obtain ⟨⟨⟨Ax, cx, hvx, _⟩, _⟩, hdl, hdy⟩ := hby _ (List.mem_of_getElem? hx)
  dsimp only at hvx hdl hdy
  subst hvx
  simp only [Value.slice.injEq] at hv
  obtain ⟨rfl, _, rfl⟩ := hv
  subst ha
  have p0 : w5.cell? ⟨g, off + n * 5, none⟩ = some (.int .i64 dx.f) := hcell 0 _ rfl
  have p1 : w5.cell? ⟨g, off + n * 5 + 1, none⟩ = some (.int .i64 dx.t) := hcell 1 _ rfl
  have p2 : w5.cell? ⟨g, off + n * 5 + 2, none⟩ = some (.int .u64 dx.n) := hcell 2 _ rfl
  have p3 : w5.cell? ⟨g, off + n * 5 + 3, none⟩ = some (.slice Ax dx.b.length cx) := hcell 3 _ rfl
  have p4 : w5.cell? ⟨g, off + n * 5 + 4, none⟩ = some (.bool dx.sp) := hcell 4 _ rfl
  have hmem := List.mem_of_getElem? hx
  have HMEM := Aside0.mk hmem
  have hN := Aside0.mk hn
  have z0 : (n : Int) < (way.length : Int) := by omega
  have z1 : (0 : Int) ≤ (n : Int) := by omega
  have hlw : (way.length : Int) ≤ 1024 := by omega
  have h5z : w.heap.size + 1 + 1 + 1 < w5.heap.size := by have := (Array.getElem?_eq_some_iff.1 d5.b4).1; omega
  have hlen : (way.eraseIdx n).length = way.length - 1 := by rw [List.length_eraseIdx]; simp [hn]
  have HLEN := Aside0.mk hlen
  have H5Z := Aside0.mk h5z
  clear hcell hel hby hmem h5z hlen hn
  rw [hw5] at p0 p1 p2 p3 p4
  have e0 : rtwin0 (Ref0.abs ⟨nodes, sent, way, boxes, lost⟩) (n : Int) = (rput0 (Ref0.abs ⟨nodes, sent, way, boxes, lost⟩) dx, none, 0) := by
    unfold rtwin0
    rw [if_neg hgood, Int.toNat_natCast, hdx]
  rw [e0]
  clear e0 hgood hdx
  have hp := fun W (hW : Only w W []) => rput_c W (fun k => P k ∧ k < w.heap.size) (some ⟨g, off, none⟩) A' c c' ⟨nodes, sent, way, boxes, lost⟩ ⟨h.old.way.only hW, h.old.boxes.only hW⟩ hl dx (.slice Ax dx.b.length cx) ((h.way.bytes _ HMEM.out).1.1.only hW) hdl hdy
  have HP := Aside0.mk hp
  clear hp
  go_enter Try.func24, Try.ntmps24
  go_wp2_with (first
    | (go_at_call 43; rw [← hw5]; refine (HP.out _ (o5.trans (Only.alloc w5 _ []) (by simp))).mono ?_; rintro e w8 ⟨M8, A8, c8, A8', c8', rfl, hR8, habs8, o8⟩; obtain ⟨nodes', sent', way', boxes', lost'⟩ := M8; have d6 := HD5.out.quiet ((Only.alloc w5 _ []).trans o8 (by simp)); have HR8 := Aside0.mk hR8; have HA8 := Aside0.mk habs8; clear hR8 habs8; have ob8 : Only w w8 [] := (o5.trans (Only.alloc w5 _ []) (by simp)).trans o8 (by simp); clear hw5 p0 p1 p2 p3 p4; obtain ⟨z00, z01, z02, z03, z04, zf00, zf01, zf02, zf03, zf04⟩ := blk5 d6.b0; obtain ⟨z10, z11, z12, z13, z14, z15, z16⟩ := blk7 d6.b1; obtain ⟨z20, z21, z22, z23, z24, zf20, zf21, zf22, zf23, zf24⟩ := blk5 d6.b2; obtain ⟨z30, z31, z32, z33, z34, zf30, zf31, zf32, zf33, zf34⟩ := blk5 d6.b3; obtain ⟨z40, z41, z42, z43, z44, zf40, zf41, zf42, zf43, zf44⟩ := blk5 d6.b4))
  go_region
  all_goals go_wp2
  all_goals (
    have key : ∀ W', Only w8 W' [w.heap.size, w.heap.size + 1 + 1, w.heap.size + 1 + 1 + 1] → RDid w P (rput0 (Ref0.abs ⟨nodes, sent, way, boxes, lost⟩) dx, none, 0) (.returned (.tuple #[refAgg ⟨nodes', sent', way', boxes', lost'⟩ (.slice A8 way'.length c8) (.slice A8' boxes'.length c8'), zeroDg, .bool false, .int .i64 0])) W' := fun W' oF =>
      ⟨⟨nodes', sent', way', boxes', lost'⟩, A8, c8, A8', c8', zeroDg, rfl, ⟨HR8.out.way.doEnd3 (by rw [size_alloc1]; have := H5Z.out; omega) oF, HR8.out.boxes.doEnd3 (by rw [size_alloc1]; have := H5Z.out; omega) oF⟩, HA8.out, ob8.doEnd3 oF, rfl⟩
    refine bodyPost_ret (v := .tuple #[refAgg ⟨nodes', sent', way', boxes', lost'⟩ (.slice A8 way'.length c8) (.slice A8' boxes'.length c8'), zeroDg, .bool false, .int .i64 0]) (by simp [results, Try.results24, go_sem, zeroDg, *]) rfl (key _ ?_)
    (repeat (first | (with_reducible exact Only.refl _ _) | (with_reducible refine Only.setCells ?_ _ (by simp) _) | (with_reducible refine Only.drewk ?_))))
end Go.Proofs.Ytehgneiiajpgpaa
