/- dgram: the document's Do, a taking. -/
import Derived.Test.YtehgneiiajpgpaaDgRg
import Derived.Deep.QuietTactic
import Derived.BigQuiet
namespace Go.Proofs.Ytehgneiiajpgpaa
open Go.RowKit
set_option linter.all false
set_option maxHeartbeats 2000000
set_option maxRecDepth 100000

def rtake0 (R : RA) (k : Int) : RA × Option D0 × Int := if rnodeB R k = false then (R, none, 90) else match R.boxes.findIdx? (fun x => x.t == k) with
  | none => (R, none, 0)
  | some i => ({ R with boxes := R.boxes.eraseIdx i }, R.boxes[i]?, 0)
theorem rdo_5 (w : World) (P : Nat → Prop) (A A' : Option Addr) (c c' : Nat) (M : Ref0) (h : RAt w P (.slice A M.way.length c) (.slice A' M.boxes.length c') M) (hl : M.way.length ≤ 1024) (hlb : M.boxes.length ≤ 99999) (o : Op0) (hkd : o.kd = 5) (Ab : Option Addr) (cb nb : Nat) :
    Calls Try.prog 24 #[refAgg M (.slice A M.way.length c) (.slice A' M.boxes.length c'), .agg (opCells o Ab nb cb)] w (RDid w P (rtake0 M.abs o.f)) := by
  obtain ⟨kd, f, t, i, at', m⟩ := o
  obtain rfl : kd = 5 := hkd
  obtain ⟨nodes, sent, way, boxes, lost⟩ := M
  dsimp only at h hl hlb ⊢
  obtain ⟨w5, hw5⟩ : ∃ w5, w5 = doW w #[.int .i64 nodes, .int .u64 sent, .slice A way.length c, .slice A' boxes.length c', .int .i64 lost] (opCells ⟨5, f, t, i, at', m⟩ Ab nb cb) := ⟨_, rfl⟩
  have o5 : Only w w5 [] := by rw [hw5]; exact doW_only w _ _
  have d5 : DoAt w5 w.heap.size #[.int .i64 nodes, .int .u64 sent, .slice A way.length c, .slice A' boxes.length c', .int .i64 lost] (opCells ⟨5, f, t, i, at', m⟩ Ab nb cb) := by rw [hw5]; exact doW_at w _ _
  have hbo := fun W (hW : Only w W []) => RDid.same (W := W) (M := ⟨nodes, sent, way, boxes, lost⟩) h hW
  have HS := Aside0.mk hbo
  have HH := Aside0.mk h
  clear hbo
  have HD5 := Aside0.mk d5
  have ho := hw5
  unfold doW at hw5
  have hwo := fun W (hW : Only w W []) n hn => without_c W (fun k => P k ∧ k < w.heap.size) (.slice A' boxes.length c') boxes (h.old.boxes.only hW) n hn (by omega)
  have HWO := Aside0.mk hwo
  clear hwo
  have hnode := fun W k => rnode_c W ⟨nodes, sent, way, boxes, lost⟩ (.slice A way.length c) (.slice A' boxes.length c') k
  have HN := Aside0.mk hnode
  clear hnode
  dsimp only at HN
  obtain ⟨x00, x01, x02, x03, x04, xf00, xf01, xf02, xf03, xf04⟩ := blk5 d5.b0
  obtain ⟨x10, x11, x12, x13, x14, x15, x16⟩ := blk7 d5.b1
  obtain ⟨x20, x21, x22, x23, x24, xf20, xf21, xf22, xf23, xf24⟩ := blk5 d5.b2
  obtain ⟨x30, x31, x32, x33, x34, xf30, xf31, xf32, xf33, xf34⟩ := blk5 d5.b3
  obtain ⟨x40, x41, x42, x43, x44, xf40, xf41, xf42, xf43, xf44⟩ := blk5 d5.b4
  by_cases hf : 1 ≤ f ∧ f ≤ nodes
  · have hfd : decide (1 ≤ f ∧ f ≤ nodes) = true := decide_eq_true hf
    have HF := Aside0.mk hf
    clear hf
    have hb0 : (boxes.length : Int) ≤ 99999 := by omega
    go_enter Try.func24, Try.ntmps24
    go_wp2_with (first
      | (go_at_call 42; rw [← hw5]; refine (HN.out _ _).mono ?_; rintro e w4 ⟨rfl, o4⟩; rw [hfd]; have d4 := HD5.out.quiet o4; clear hw5; obtain ⟨y00, y01, y02, y03, y04, yf00, yf01, yf02, yf03, yf04⟩ := blk5 d4.b0; obtain ⟨y10, y11, y12, y13, y14, y15, y16⟩ := blk7 d4.b1; obtain ⟨y20, y21, y22, y23, y24, yf20, yf21, yf22, yf23, yf24⟩ := blk5 d4.b2; obtain ⟨y30, y31, y32, y33, y34, yf30, yf31, yf32, yf33, yf34⟩ := blk5 d4.b3; obtain ⟨y40, y41, y42, y43, y44, yf40, yf41, yf42, yf43, yf44⟩ := blk5 d4.b4))
    have ob4 : Only w w4 [] := o5.trans o4 (by simp)
    go_loopg [10] boxes.length (fun gk v10 wr => ∃ d : Nat, d ≤ boxes.length ∧ gk = boxes.length - d ∧ v10 = .int .i64 (d : Int) ∧ Aside0 (Only w4 wr []) ∧ Aside0 (∀ j x, j < d → boxes[j]? = some x → x.1.t ≠ f))
    case atStart => exact ⟨0, Nat.zero_le _, rfl, rfl, ⟨Only.refl _ _⟩, ⟨fun j x hj _ => by omega⟩⟩
    case round =>
      obtain ⟨d, hd, rfl, rfl, HQ, HNO⟩ := hrel
      have ob6 : Only w wr [] := ob4.trans HQ.out (by simp)
      have d6 := d4.quiet HQ.out
      obtain ⟨z00, z01, z02, z03, z04, zf00, zf01, zf02, zf03, zf04⟩ := blk5 d6.b0; obtain ⟨z10, z11, z12, z13, z14, z15, z16⟩ := blk7 d6.b1; obtain ⟨z20, z21, z22, z23, z24, zf20, zf21, zf22, zf23, zf24⟩ := blk5 d6.b2; obtain ⟨z30, z31, z32, z33, z34, zf30, zf31, zf32, zf33, zf34⟩ := blk5 d6.b3; obtain ⟨z40, z41, z42, z43, z44, zf40, zf41, zf42, zf43, zf44⟩ := blk5 d6.b4
      by_cases hlt : d < boxes.length
      · obtain ⟨⟨dx, vx⟩, hx⟩ : ∃ x, boxes[d]? = some x := ⟨_, List.getElem?_eq_getElem hlt⟩
        obtain ⟨⟨_, _, hv, hcc, hel⟩, hby⟩ := HH.out.boxes.only ob6
        obtain ⟨g, off, ha, _, hcell⟩ := hel d _ hx
        obtain ⟨⟨⟨Ax, cx, hvx, _⟩, _⟩, hdl, hdy⟩ := hby _ (List.mem_of_getElem? hx)
        dsimp only at hvx hdl hdy
        subst hvx
        simp only [Value.slice.injEq] at hv
        obtain ⟨rfl, _, rfl⟩ := hv
        subst ha
        have p0 : wr.cell? ⟨g, off + d * 5, none⟩ = some (.int .i64 dx.f) := hcell 0 _ rfl
        have p1 : wr.cell? ⟨g, off + d * 5 + 1, none⟩ = some (.int .i64 dx.t) := hcell 1 _ rfl
        have p2 : wr.cell? ⟨g, off + d * 5 + 2, none⟩ = some (.int .u64 dx.n) := hcell 2 _ rfl
        have p3 : wr.cell? ⟨g, off + d * 5 + 3, none⟩ = some (.slice Ax dx.b.length cx) := hcell 3 _ rfl
        have p4 : wr.cell? ⟨g, off + d * 5 + 4, none⟩ = some (.bool dx.sp) := hcell 4 _ rfl
        have hmem := List.mem_of_getElem? hx
        have HMEM := Aside0.mk hmem
        have HX := Aside0.mk hx
        have HLT := Aside0.mk hlt
        have z0 : (d : Int) < (boxes.length : Int) := by omega
        have z1 : (0 : Int) ≤ (d : Int) := by omega
        clear hcell hel hby hmem hx hlt hd
        by_cases hk : dx.t = f
        · have hkb : (dx.t == f) = true := by simpa using hk
          subst hk
          have hdl' : d < (boxes.map (·.1)).length := by have := HLT.out; simpa using this
          have e1 : rtake0 (Ref0.abs ⟨nodes, sent, way, boxes, lost⟩) dx.t = (⟨nodes, sent, way.map (·.1), (boxes.map (·.1)).eraseIdx d, lost⟩, some dx, 0) := by
            have hb : ¬ rnodeB (Ref0.abs ⟨nodes, sent, way, boxes, lost⟩) dx.t = false := fun hh => absurd (hfd.symm.trans hh) (by simp)
            have hnn : (Ref0.abs ⟨nodes, sent, way, boxes, lost⟩).boxes.findIdx? (fun x => x.t == dx.t) = some d := by
              rw [List.findIdx?_eq_some_iff_getElem]
              refine ⟨hdl', ?_, fun j hj => ?_⟩
              · obtain ⟨h1, h2⟩ := List.getElem?_eq_some_iff.1 HX.out
                simp [Ref0.abs, h2]
              · have hjl : j < boxes.length := by have := HLT.out; omega
                have := HNO.out j _ hj (List.getElem?_eq_getElem hjl)
                simpa [Ref0.abs] using this
            have hdx : (Ref0.abs ⟨nodes, sent, way, boxes, lost⟩).boxes[d]? = some dx := by simp [Ref0.abs, HX.out]
            unfold rtake0
            rw [if_neg hb, hnn]
            dsimp only
            rw [hdx]
            rfl
          have HE := Aside0.mk e1
          clear e1 hdl'
          go_wp2_with fail
          go_quiet (fail)
          obtain ⟨w7, hw7⟩ : ∃ w7, w7 = wr.drewN nq := ⟨_, rfl⟩
          have o67 : Only wr w7 [] := by rw [hw7]; exact ⟨rfl, rfl, rfl, Nat.le_refl _, fun _ _ _ => rfl⟩
          have ob7 : Only w w7 [] := ob6.trans o67 (by simp)
          have d7 := d6.quiet o67
          obtain ⟨t00, t01, t02, t03, t04, tf00, tf01, tf02, tf03, tf04⟩ := blk5 d7.b0; obtain ⟨t10, t11, t12, t13, t14, t15, t16⟩ := blk7 d7.b1; obtain ⟨t20, t21, t22, t23, t24, tf20, tf21, tf22, tf23, tf24⟩ := blk5 d7.b2; obtain ⟨t30, t31, t32, t33, t34, tf30, tf31, tf32, tf33, tf34⟩ := blk5 d7.b3; obtain ⟨t40, t41, t42, t43, t44, tf40, tf41, tf42, tf43, tf44⟩ := blk5 d7.b4
          have p0' : w7.cell? ⟨g, off + d * 5, none⟩ = some (.int .i64 dx.f) := by rw [hw7]; exact p0
          have p1' : w7.cell? ⟨g, off + d * 5 + 1, none⟩ = some (.int .i64 dx.t) := by rw [hw7]; exact p1
          have p2' : w7.cell? ⟨g, off + d * 5 + 2, none⟩ = some (.int .u64 dx.n) := by rw [hw7]; exact p2
          have p3' : w7.cell? ⟨g, off + d * 5 + 3, none⟩ = some (.slice Ax dx.b.length cx) := by rw [hw7]; exact p3
          have p4' : w7.cell? ⟨g, off + d * 5 + 4, none⟩ = some (.bool dx.sp) := by rw [hw7]; exact p4
          have hz7 : w.heap.size + 1 + 1 + 1 < w7.heap.size := by have := (Array.getElem?_eq_some_iff.1 d7.b4).1; omega
          have hlen : (boxes.eraseIdx d).length = boxes.length - 1 := by rw [List.length_eraseIdx]; simp [HLT.out]
          have HZ7 := Aside0.mk hz7
          have HLEN := Aside0.mk hlen
          have hd8 : ∀ W, Only (w7.alloc (.cells #[.int .i64 dx.f, .int .i64 dx.t, .int .u64 dx.n, .slice Ax dx.b.length cx, .bool dx.sp] 54)) W [] → W.heap[w7.heap.size]? = some (.cells #[.int .i64 dx.f, .int .i64 dx.t, .int .u64 dx.n, .slice Ax dx.b.length cx, .bool dx.sp] 54 (0, 0)) := fun W hW => (hW.block _ (by simp) (by simp)).trans (heap_alloc_new w7 _)
          have HD8 := Aside0.mk hd8
          have hz7a : w.heap.size < w7.heap.size := by omega
          have hz7b : w.heap.size + 1 < w7.heap.size := by omega
          rw [← hw7]
          clear hw7 hz7 hlen hd8 p0 p1 p2 p3 p4
          go_wp2_with (first
            | (go_at_call 44; refine (HWO.out _ (ob7.allocs _) d HLT.out).mono ?_; rintro e w8 ⟨A8, c8, rfl, hR8, o8⟩; have d4 := d7.quiet ((Only.alloc w7 _ []).trans o8 (by simp)); have HR8 := Aside0.mk hR8; clear hR8; have ob8 : Only w w8 [] := (ob7.allocs _).trans o8 (by simp); obtain ⟨v0, v1, v2, v3, v4, _⟩ := blk5 (HD8.out _ o8); have hl8 : w7.heap.size < w8.heap.size := (Array.getElem?_eq_some_iff.1 (HD8.out _ o8)).1; have hne1 : ¬ w7.heap.size = w.heap.size := (by have := HZ7.out; omega); have hne2 : ¬ w.heap.size = w7.heap.size := (by have := HZ7.out; omega); have hne3 : ¬ w.heap.size + 1 + 1 = w7.heap.size := (by have := HZ7.out; omega); have hne4 : ¬ w.heap.size + 1 + 1 + 1 = w7.heap.size := (by have := HZ7.out; omega); have hne5 : ¬ w7.heap.size = w.heap.size + 1 + 1 := (by have := HZ7.out; omega); have hne6 : ¬ w7.heap.size = w.heap.size + 1 + 1 + 1 := (by have := HZ7.out; omega); obtain ⟨y00, y01, y02, y03, y04, yf00, yf01, yf02, yf03, yf04⟩ := blk5 d4.b0; obtain ⟨y10, y11, y12, y13, y14, y15, y16⟩ := blk7 d4.b1; obtain ⟨y20, y21, y22, y23, y24, yf20, yf21, yf22, yf23, yf24⟩ := blk5 d4.b2; obtain ⟨y30, y31, y32, y33, y34, yf30, yf31, yf32, yf33, yf34⟩ := blk5 d4.b3; obtain ⟨y40, y41, y42, y43, y44, yf40, yf41, yf42, yf43, yf44⟩ := blk5 d4.b4))
          all_goals go_region
          all_goals go_wp2
          all_goals (
            have key : ∀ W', Only w8 W' [w.heap.size, w.heap.size + 1 + 1, w.heap.size + 1 + 1 + 1] → RDid w P (⟨nodes, sent, way.map (·.1), (boxes.map (·.1)).eraseIdx d, lost⟩, some dx, 0) (.returned (.tuple #[refAgg ⟨nodes, sent, way, boxes.eraseIdx d, lost⟩ (.slice A way.length c) (.slice A8 (boxes.length - 1) c8), dgAgg dx (.slice Ax dx.b.length cx), .bool true, .int .i64 0])) W' := fun W' oF => by
              refine ⟨⟨nodes, sent, way, boxes.eraseIdx d, lost⟩, A, c, A8, c8, dgAgg dx (.slice Ax dx.b.length cx), by dsimp only; rw [HLEN.out]; rfl, ⟨?_, ?_⟩, ?_, ob8.doEnd3 oF, _, rfl, ((HH.out.boxes.bytes _ HMEM.out).1.only (ob8.doEnd3 oF)).to (fun k _ hk => .inl hk), hdl⟩
              · exact ((HH.out.old.way.only ob8).to (Q := fun k => (P k ∧ k < w.heap.size) ∨ w.heap.size + 1 + 1 + 1 + 1 ≤ k) (fun k _ hk => .inl hk)).doEnd3 (by omega) oF
              · dsimp only
                rw [HLEN.out]
                exact HR8.out.doEnd3 (by rw [size_alloc1]; have := HZ7.out; omega) oF
              · simp [Ref0.abs, map_eraseIdx0]
            refine bodyPost_ret (v := .tuple #[refAgg ⟨nodes, sent, way, boxes.eraseIdx d, lost⟩ (.slice A way.length c) (.slice A8 (boxes.length - 1) c8), dgAgg dx (.slice Ax dx.b.length cx), .bool true, .int .i64 0]) (by simp [results, Try.results24, go_sem, *]) rfl ?_
            rw [HE.out]
            refine key _ ?_
            (repeat (first | (with_reducible exact Only.refl _ _) | (with_reducible refine Only.setCells ?_ _ (by simp) _) | (with_reducible refine Only.drewk ?_))))
        · have hkb : (dx.t == f) = false := by simpa using hk
          go_wp2_with fail
          go_quiet (fail)
          go_wp2_with fail
          go_roundg (boxes.length - (d + 1))
          case measure => have := HLT.out; omega
          case rel =>
            refine ⟨d + 1, HLT.out, rfl, by simp, ⟨HQ.out.trans (ks2 := []) ⟨rfl, rfl, rfl, Nat.le_refl _, fun _ _ _ => rfl⟩ (by simp)⟩, ⟨fun j x hj hx => ?_⟩⟩
            by_cases hjd : j = d
            · subst hjd
              rw [HX.out] at hx
              cases hx
              exact hk
            · exact HNO.out j x (by omega) hx
      · have hdd : d = boxes.length := by omega
        subst hdd
        have e0 : rtake0 (Ref0.abs ⟨nodes, sent, way, boxes, lost⟩) f = (Ref0.abs ⟨nodes, sent, way, boxes, lost⟩, none, 0) := by
          have hb : ¬ rnodeB (Ref0.abs ⟨nodes, sent, way, boxes, lost⟩) f = false := fun hh => absurd (hfd.symm.trans hh) (by simp)
          have hnn : (Ref0.abs ⟨nodes, sent, way, boxes, lost⟩).boxes.findIdx? (fun x => x.t == f) = none := by
            rw [List.findIdx?_eq_none_iff]
            intro y hy
            obtain ⟨x, hx, rfl⟩ := List.mem_map.1 hy
            obtain ⟨j, hj, hjx⟩ := List.getElem_of_mem hx
            simpa using HNO.out j x hj (by rw [List.getElem?_eq_getElem hj, hjx])
          unfold rtake0
          rw [if_neg hb, hnn]
        clear hlt hd
        have HE := Aside0.mk e0
        clear e0
        go_wp2
        go_region
        all_goals go_wp2
        all_goals (
          refine bodyPost_ret (v := .tuple #[refAgg ⟨nodes, sent, way, boxes, lost⟩ (.slice A way.length c) (.slice A' boxes.length c'), zeroDg, .bool false, .int .i64 0]) (by simp [results, Try.results24, go_sem, zeroDg, *]) rfl ?_
          rw [HE.out]
          refine HS.out _ ?_ 0
          refine Only.doEnd ob6 ?_
          (repeat (first | (with_reducible exact Only.refl _ _) | (with_reducible refine Only.setCells ?_ _ (by simp) _) | (with_reducible refine Only.drewk ?_))))
  · have hfd : decide (1 ≤ f ∧ f ≤ nodes) = false := decide_eq_false hf
    have e0 : rtake0 (Ref0.abs ⟨nodes, sent, way, boxes, lost⟩) f = (Ref0.abs ⟨nodes, sent, way, boxes, lost⟩, none, 90) := by
      have hb : rnodeB (Ref0.abs ⟨nodes, sent, way, boxes, lost⟩) f = false := hfd
      unfold rtake0
      rw [if_pos hb]
    rw [e0]
    have HF := Aside0.mk hf
    clear hf e0
    go_enter Try.func24, Try.ntmps24
    go_wp2_with (first
      | (go_at_call 42; rw [← hw5]; refine (HN.out _ _).mono ?_; rintro e w4 ⟨rfl, o4⟩; rw [hfd]; have d4 := HD5.out.quiet o4; obtain ⟨y00, y01, y02, y03, y04, yf00, yf01, yf02, yf03, yf04⟩ := blk5 d4.b0; obtain ⟨y10, y11, y12, y13, y14, y15, y16⟩ := blk7 d4.b1; obtain ⟨y20, y21, y22, y23, y24, yf20, yf21, yf22, yf23, yf24⟩ := blk5 d4.b2; obtain ⟨y30, y31, y32, y33, y34, yf30, yf31, yf32, yf33, yf34⟩ := blk5 d4.b3; obtain ⟨y40, y41, y42, y43, y44, yf40, yf41, yf42, yf43, yf44⟩ := blk5 d4.b4))
    go_region
    all_goals go_wp2
    all_goals (
      refine bodyPost_ret (v := .tuple #[refAgg ⟨nodes, sent, way, boxes, lost⟩ (.slice A way.length c) (.slice A' boxes.length c'), zeroDg, .bool false, .int .i64 90]) (by simp [results, Try.results24, go_sem, zeroDg, *]) rfl (HS.out _ ?_ _)
      refine Only.doEnd (o5.trans o4 (by simp)) ?_
      (repeat (first | (with_reducible exact Only.refl _ _) | (with_reducible refine Only.setCells ?_ _ (by simp) _) | (with_reducible refine Only.drewk ?_))))
end Go.Proofs.Ytehgneiiajpgpaa
