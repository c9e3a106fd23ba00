/- dgram: the document's Do, a wipe. -/
import Derived.Test.YtehgneiiajpgpaaDgRi
import Derived.Test.YtehgneiiajpgpaaDgRh
namespace Go.Proofs.Ytehgneiiajpgpaa
open Go.RowKit
set_option linter.all false
set_option maxHeartbeats 40000000
set_option maxRecDepth 100000

def rwipe0 (R : RA) (k : Int) : RA × Option D0 × Int := if rnodeB R k = false then (R, none, 90) else ({ R with lost := wrap64 (R.lost + cntB k R.boxes), boxes := R.boxes.filter fun x => !(x.t == k) }, none, 0)
/-- What is left when all but the first d are looked at. -/
def wiped (k : Int) (l : List (D0 × Value)) (d : Nat) : List (D0 × Value) := l.take d ++ (l.drop d).filter fun x => !(x.1.t == k)
theorem wiped_all (k : Int) (l : List (D0 × Value)) : wiped k l l.length = l := by simp [wiped]
theorem wiped_zero (k : Int) (l : List (D0 × Value)) : wiped k l 0 = l.filter fun x => !(x.1.t == k) := by simp [wiped]
theorem wiped_at {k : Int} {l : List (D0 × Value)} {d : Nat} {x : D0 × Value} (h : l[d]? = some x) : (wiped k l (d + 1))[d]? = some x := by
  have hd : d < l.length := (List.getElem?_eq_some_iff.1 h).1
  unfold wiped
  rw [List.getElem?_append_left (by rw [List.length_take]; omega), List.getElem?_take, if_pos (by omega)]
  exact h
theorem wiped_len (k : Int) (l : List (D0 × Value)) (d : Nat) : (wiped k l d).length ≤ l.length := by
  unfold wiped
  have := List.length_filter_le (fun x : D0 × Value => !(x.1.t == k)) (l.drop d)
  rw [List.length_append, List.length_take]
  rw [List.length_drop] at this
  omega
theorem wiped_keep {k : Int} {l : List (D0 × Value)} {d : Nat} {x : D0 × Value} (h : l[d]? = some x) (hk : x.1.t ≠ k) : wiped k l (d + 1) = wiped k l d := by
  have hd : d < l.length := (List.getElem?_eq_some_iff.1 h).1
  have e : l.drop d = x :: l.drop (d + 1) := by
    rw [List.drop_eq_getElem_cons hd, (List.getElem?_eq_some_iff.1 h).2]
  have hb : (!(x.1.t == k)) = true := by simpa using hk
  unfold wiped
  rw [e, List.filter_cons, if_pos hb, List.take_succ, h]
  simp
theorem wiped_cut {k : Int} {l : List (D0 × Value)} {d : Nat} {x : D0 × Value} (h : l[d]? = some x) (hk : x.1.t = k) : (wiped k l (d + 1)).eraseIdx d = wiped k l d := by
  have hd : d < l.length := (List.getElem?_eq_some_iff.1 h).1
  have e : l.drop d = x :: l.drop (d + 1) := by
    rw [List.drop_eq_getElem_cons hd, (List.getElem?_eq_some_iff.1 h).2]
  have hb : (!(x.1.t == k)) = false := by simp [hk]
  have ht : (l.take d).length = d := by rw [List.length_take]; omega
  unfold wiped
  rw [e, List.filter_cons, if_neg (by simp [hb]), List.take_succ, h]
  simp only [Option.toList_some, List.append_assoc]
  rw [List.eraseIdx_append_of_length_le (by omega), ht, Nat.sub_self]
  rfl
theorem rdo_6 (w : World) (P : Nat → Prop) (A A' : Option Addr) (c c' : Nat) (M : Ref0) (h : RAt w P (.slice A M.way.length c) (.slice A' M.boxes.length c') M) (hl : M.way.length ≤ 1024) (hlb : M.boxes.length ≤ 99999) (o : Op0) (hkd : o.kd = 6) (Ab : Option Addr) (cb nb : Nat) :
    Calls Try.prog 24 #[refAgg M (.slice A M.way.length c) (.slice A' M.boxes.length c'), .agg (opCells o Ab nb cb)] w (RDid w P (rwipe0 M.abs o.f)) := by
  obtain ⟨kd, f, t, i, at', m⟩ := o
  obtain rfl : kd = 6 := hkd
  obtain ⟨nodes, sent, way, boxes, lost⟩ := M
  dsimp only at h hl hlb ⊢
  obtain ⟨w5, hw5⟩ : ∃ w5, w5 = doW w #[.int .i64 nodes, .int .u64 sent, .slice A way.length c, .slice A' boxes.length c', .int .i64 lost] (opCells ⟨6, f, t, i, at', m⟩ Ab nb cb) := ⟨_, rfl⟩
  have o5 : Only w w5 [] := by rw [hw5]; exact doW_only w _ _
  have d5 : DoAt w5 w.heap.size #[.int .i64 nodes, .int .u64 sent, .slice A way.length c, .slice A' boxes.length c', .int .i64 lost] (opCells ⟨6, f, t, i, at', m⟩ Ab nb cb) := by rw [hw5]; exact doW_at w _ _
  have hbo := fun W (hW : Only w W []) => RDid.same (W := W) (M := ⟨nodes, sent, way, boxes, lost⟩) h hW
  have HS := Aside0.mk hbo
  have HH := Aside0.mk h
  clear hbo
  have HD5 := Aside0.mk d5
  have ho := hw5
  unfold doW at hw5
  have hnode := fun W k => rnode_c W ⟨nodes, sent, way, boxes, lost⟩ (.slice A way.length c) (.slice A' boxes.length c') k
  have HN := Aside0.mk hnode
  clear hnode
  dsimp only at HN
  obtain ⟨x00, x01, x02, x03, x04, xf00, xf01, xf02, xf03, xf04⟩ := blk5 d5.b0
  obtain ⟨x10, x11, x12, x13, x14, x15, x16⟩ := blk7 d5.b1
  obtain ⟨x20, x21, x22, x23, x24, xf20, xf21, xf22, xf23, xf24⟩ := blk5 d5.b2
  obtain ⟨x30, x31, x32, x33, x34, xf30, xf31, xf32, xf33, xf34⟩ := blk5 d5.b3
  obtain ⟨x40, x41, x42, x43, x44, xf40, xf41, xf42, xf43, xf44⟩ := blk5 d5.b4
  by_cases hf : 1 ≤ f ∧ f ≤ nodes
  · have hfd : decide (1 ≤ f ∧ f ≤ nodes) = true := decide_eq_true hf
    have HF := Aside0.mk hf
    clear hf
    have hbx := fun W (hW : Only w W []) => rbox_c W P ⟨nodes, sent, way, boxes, lost⟩ (.slice A way.length c) (.slice A' boxes.length c') f (h.boxes.only hW) (by show boxes.length ≤ 100000; omega)
    dsimp only at hbx
    obtain ⟨cn, hcn⟩ : ∃ cn, cntT f boxes = cn := ⟨_, rfl⟩
    have hcn2 : cn ≤ 99999 := by have := cntT_le f boxes; omega
    rw [hcn] at hbx
    have HCN := Aside0.mk hcn
    have HBX := Aside0.mk hbx
    clear hbx hcn
    have hb0 : (boxes.length : Int) ≤ 99999 := by omega
    go_enter Try.func24, Try.ntmps24
    go_wp2_with (first
      | (go_at_call 42; rw [← hw5]; refine (HN.out _ _).mono ?_; rintro e w4 ⟨rfl, o4⟩; rw [hfd]; have d4 := HD5.out.quiet o4; have ob4 : Only w w4 [] := o5.trans o4 (by simp); clear hw5; obtain ⟨y00, y01, y02, y03, y04, yf00, yf01, yf02, yf03, yf04⟩ := blk5 d4.b0; obtain ⟨y10, y11, y12, y13, y14, y15, y16⟩ := blk7 d4.b1; obtain ⟨y20, y21, y22, y23, y24, yf20, yf21, yf22, yf23, yf24⟩ := blk5 d4.b2; obtain ⟨y30, y31, y32, y33, y34, yf30, yf31, yf32, yf33, yf34⟩ := blk5 d4.b3; obtain ⟨y40, y41, y42, y43, y44, yf40, yf41, yf42, yf43, yf44⟩ := blk5 d4.b4))
    obtain ⟨w3, hw3⟩ : ∃ w3, w3 = w4 := ⟨_, rfl⟩
    go_region_with
      (first | (go_at_call 27; refine (HBX.out _ (by (repeat (first | (with_reducible assumption) | (with_reducible exact Only.refl _ _) | (with_reducible refine Only.allocs ?_ _) | (with_reducible refine Only.drews ?_) | (with_reducible refine Only.setNew ?_ _ (by dsimp only; omega) _))))).mono ?_; rintro e w6 ⟨rfl, o6⟩; have d6 := d4.quiet ((Only.drew w4 []).trans o6 (by simp)); have ob6 : Only w w6 [] := (ob4.drews).trans o6 (by simp); obtain ⟨z00, z01, z02, z03, z04, zf00, zf01, zf02, zf03, zf04⟩ := blk5 d6.b0; obtain ⟨z10, z11, z12, z13, z14, z15, z16⟩ := blk7 d6.b1; obtain ⟨z20, z21, z22, z23, z24, zf20, zf21, zf22, zf23, zf24⟩ := blk5 d6.b2; obtain ⟨z30, z31, z32, z33, z34, zf30, zf31, zf32, zf33, zf34⟩ := blk5 d6.b3; obtain ⟨z40, z41, z42, z43, z44, zf40, zf41, zf42, zf43, zf44⟩ := blk5 d6.b4))
    all_goals
      obtain ⟨lo, hlo⟩ : ∃ lo, lo = IntKind.i64.wrap (lost + (cn : Int)) := ⟨_, rfl⟩
      obtain ⟨w7, hw7⟩ : ∃ w7, w7 = w6.setCell ⟨w.heap.size, 4, none⟩ (.int .i64 lo) := ⟨_, rfl⟩
      have o67 : Only w6 w7 [w.heap.size] := by rw [hw7]; exact Only.setCell _ _ _
      have ob7 : Only w w7 [] := by rw [hw7]; exact ob6.setNew _ (Nat.le_refl _) _
      have d7 : DoAt w7 w.heap.size #[.int .i64 nodes, .int .u64 sent, .slice A way.length c, .slice A' boxes.length c', .int .i64 lo] (opCells ⟨6, f, t, i, at', m⟩ Ab nb cb) := by
        refine ⟨?_, (o67.block _ (Array.getElem?_eq_some_iff.1 d6.b1).1 (by simp)).trans d6.b1, (o67.block _ (Array.getElem?_eq_some_iff.1 d6.b2).1 (by simp; omega)).trans d6.b2, (o67.block _ (Array.getElem?_eq_some_iff.1 d6.b3).1 (by simp; omega)).trans d6.b3, (o67.block _ (Array.getElem?_eq_some_iff.1 d6.b4).1 (by simp; omega)).trans d6.b4⟩
        rw [hw7, heap_setCell d6.b0]
        rfl
      have h7z : w.heap.size + 1 + 1 + 1 + 1 < w7.heap.size := (Array.getElem?_eq_some_iff.1 d7.b4).1
      have hbx7 : RRow w7 (fun k => (P k ∧ k < w.heap.size) ∨ w.heap.size + 1 + 1 + 1 + 1 ≤ k) (.slice A' boxes.length c') boxes := (HH.out.old.boxes.only ob7).to (fun k _ hk => .inl hk)
      rw [show w6.setCell ⟨w.heap.size, 4, none⟩ (.int .i64 (IntKind.i64.wrap (lost + (cn : Int)))) = w7 by rw [hw7, hlo]]
      have he0 : rwipe0 (Ref0.abs ⟨nodes, sent, way, boxes, lost⟩) f = (⟨nodes, sent, way.map (·.1), (boxes.map (·.1)).filter (fun x => !(x.t == f)), lo⟩, none, 0) := by
        have hb : ¬ rnodeB (Ref0.abs ⟨nodes, sent, way, boxes, lost⟩) f = false := fun hh => absurd (hfd.symm.trans hh) (by simp)
        unfold rwipe0
        rw [if_neg hb, hlo, IntWalk.i64_left, ← HCN.out, ← cntB_map]
        rfl
      have HE := Aside0.mk he0
      clear he0
      have HB7 := Aside0.mk hbx7
      have HD7 := Aside0.mk d7
      have HO7 := Aside0.mk ob7
      have HD4 := Aside0.mk d4
      clear hw7 hlo hbx7 o67 d7 ob7 x00 x01 x02 x03 x04 xf00 xf01 xf02 xf03 xf04 x10 x11 x12 x13 x14 x15 x16 x20 x21 x22 x23 x24 xf20 xf21 xf22 xf23 xf24 x30 x31 x32 x33 x34 xf30 xf31 xf32 xf33 xf34 x40 x41 x42 x43 x44 xf40 xf41 xf42 xf43 xf44
      clear y00 y01 y02 y03 y04 yf00 yf01 yf02 yf03 yf04 y10 y11 y12 y13 y14 y15 y16 y20 y21 y22 y23 y24 yf20 yf21 yf22 yf23 yf24 y30 y31 y32 y33 y34 yf30 yf31 yf32 yf33 yf34 y40 y41 y42 y43 y44 yf40 yf41 yf42 yf43 yf44
      clear z00 z01 z02 z03 z04 zf00 zf01 zf02 zf03 zf04 z10 z11 z12 z13 z14 z15 z16 z20 z21 z22 z23 z24 zf20 zf21 zf22 zf23 zf24 z30 z31 z32 z33 z34 zf30 zf31 zf32 zf33 zf34 z40 z41 z42 z43 z44 zf40 zf41 zf42 zf43 zf44
      clear d6
      clear ob6 o6
      clear d4 ob4
      clear d5
      clear h hl hlb
      have t03 := (blk5 HD7.out.b0).2.2.2.1
      go_wp2
      clear t03
      go_loopg [9] boxes.length (fun gk v9 wr => ∃ (d : Nat) (i9 : Int) (A8 : Option Addr) (n8 c8 : Nat), d ≤ boxes.length ∧ gk = d ∧ v9 = .int .i64 i9 ∧ Aside0 (i9 = (d : Int) - 1) ∧ Aside0 ((wiped f boxes d).length = n8) ∧ Aside0 (DoAt wr w.heap.size #[.int .i64 nodes, .int .u64 sent, .slice A way.length c, .slice A8 n8 c8, .int .i64 lo] (opCells ⟨6, f, t, i, at', m⟩ Ab nb cb)) ∧ Aside0 (RRow wr (fun k => (P k ∧ k < w.heap.size) ∨ w.heap.size + 1 + 1 + 1 + 1 ≤ k) (.slice A8 n8 c8) (wiped f boxes d)) ∧ Aside0 (Only w wr []))
      case atStart => exact ⟨boxes.length, _, A', boxes.length, c', Nat.le_refl _, rfl, rfl, ⟨rfl⟩, ⟨by rw [wiped_all]⟩, HD7, ⟨by rw [wiped_all]; exact HB7.out⟩, HO7⟩
      case round =>
        obtain ⟨d, i9, A8, n8, c8, hd, rfl, rfl, HI, HN8, HDR, HRR, HOR⟩ := hrel
        have d6 := HDR.out
        obtain ⟨z00, z01, z02, z03, z04, zf00, zf01, zf02, zf03, zf04⟩ := blk5 d6.b0; obtain ⟨z10, z11, z12, z13, z14, z15, z16⟩ := blk7 d6.b1; obtain ⟨z20, z21, z22, z23, z24, zf20, zf21, zf22, zf23, zf24⟩ := blk5 d6.b2; obtain ⟨z30, z31, z32, z33, z34, zf30, zf31, zf32, zf33, zf34⟩ := blk5 d6.b3; obtain ⟨z40, z41, z42, z43, z44, zf40, zf41, zf42, zf43, zf44⟩ := blk5 d6.b4
        cases gk with
        | zero =>
          obtain rfl : i9 = -1 := HI.out
          clear HI hd
          go_wp2
          go_region
          all_goals go_wp2
          all_goals (
            have key : ∀ W', Only wr W' [w.heap.size + 1 + 1, w.heap.size + 1 + 1 + 1] → RDid w P (rwipe0 (Ref0.abs ⟨nodes, sent, way, boxes, lost⟩) f) (.returned (.tuple #[refAgg ⟨nodes, sent, way, wiped f boxes 0, lo⟩ (.slice A way.length c) (.slice A8 n8 c8), zeroDg, .bool false, .int .i64 0])) W' := fun W' oF => by
              rw [HE.out]
              have oF3 := oF.weaken (ks2 := [w.heap.size, w.heap.size + 1 + 1, w.heap.size + 1 + 1 + 1]) (fun k hk => .inl (List.mem_cons_of_mem _ hk))
              refine ⟨⟨nodes, sent, way, wiped f boxes 0, lo⟩, A, c, A8, c8, zeroDg, by dsimp only; rw [HN8.out]; rfl, ⟨?_, ?_⟩, ?_, HOR.out.doEnd oF, rfl⟩
              · exact ((HH.out.old.way.only HOR.out).to (Q := fun k => (P k ∧ k < w.heap.size) ∨ w.heap.size + 1 + 1 + 1 + 1 ≤ k) (fun k _ hk => .inl hk)).doEnd3 (by omega) oF3
              · dsimp only
                rw [HN8.out]
                exact HRR.out.doEnd3 (by omega) oF3
              · simp [Ref0.abs, wiped_zero, List.filter_map, Function.comp_def]
            refine bodyPost_ret (v := .tuple #[refAgg ⟨nodes, sent, way, wiped f boxes 0, lo⟩ (.slice A way.length c) (.slice A8 n8 c8), zeroDg, .bool false, .int .i64 0]) (by simp [results, Try.results24, go_sem, zeroDg, *]) rfl (key _ ?_)
            (repeat (first | (with_reducible exact Only.refl _ _) | (with_reducible refine Only.setCells ?_ _ (by simp) _) | (with_reducible refine Only.drewk ?_))))
        | succ d =>
          have hi9 : i9 = (d : Int) := by have := HI.out; omega
          subst hi9
          have hdl : d < boxes.length := by omega
          obtain ⟨⟨dx, vx⟩, hx⟩ : ∃ x, boxes[d]? = some x := ⟨_, List.getElem?_eq_getElem hdl⟩
          have hwx := wiped_at (k := f) hx
          have hn8 := HN8.out
          have hdn : d < n8 := by rw [← hn8]; exact (List.getElem?_eq_some_iff.1 hwx).1
          have hn8b : n8 ≤ 99999 := by rw [← hn8]; have := wiped_len f boxes (d + 1); omega
          obtain ⟨⟨_, _, hv, hcc, hel⟩, hby⟩ := HRR.out
          obtain ⟨g, off, ha, _, hcell⟩ := hel d _ hwx
          obtain ⟨⟨⟨Ax, cx, hvx, _⟩, _⟩, hdl1, hdy⟩ := hby _ (List.mem_of_getElem? hwx)
          dsimp only at hvx hdl1 hdy
          subst hvx
          simp only [Value.slice.injEq] at hv
          obtain ⟨rfl, -, rfl⟩ := hv
          subst ha
          have p1 : wr.cell? ⟨g, off + d * 5 + 1, none⟩ = some (.int .i64 dx.t) := hcell 1 _ rfl
          have z0 : (d : Int) < (n8 : Int) := by omega
          have z1 : (0 : Int) ≤ (d : Int) := by omega
          have z2 : (n8 : Int) ≤ 99999 := by omega
          have hwo := fun W (hW : Only wr W []) => without_c W (fun k => (P k ∧ k < w.heap.size) ∨ w.heap.size + 1 + 1 + 1 + 1 ≤ k) (.slice (some ⟨g, off, none⟩) n8 c8) (wiped f boxes (d + 1)) (HRR.out.only hW) d (by rw [hn8]; exact hdn) (by rw [hn8]; omega)
          simp only [hn8] at hwo
          have HWO := Aside0.mk hwo
          have HX := Aside0.mk hx
          have HDL := Aside0.mk hdl
          have HDN := Aside0.mk hdn
          clear hwo hx hdl hdn hcell hel hby hd HI hn8 hn8b hwx
          by_cases hk : dx.t = f
          · have hkb : (dx.t == f) = true := by simpa using hk
            have HK := Aside0.mk hk
            clear hk
            go_wp2_with fail
            go_quiet (fail)
            obtain ⟨wq, hwq⟩ : ∃ wq, wq = wr.drewN nq := ⟨_, rfl⟩
            have oq : Only wr wq [] := by rw [hwq]; exact ⟨rfl, rfl, rfl, Nat.le_refl _, fun _ _ _ => rfl⟩
            have dq := d6.quiet oq
            obtain ⟨s00, s01, s02, s03, s04, sf00, sf01, sf02, sf03, sf04⟩ := blk5 dq.b0
            obtain ⟨s10, s11, s12, s13, s14, s15, s16⟩ := blk7 dq.b1
            have hwc := HWO.out wq oq
            have HWC := Aside0.mk hwc
            have HDQ := Aside0.mk dq
            have HOQ := Aside0.mk (HOR.out.trans oq (by simp))
            rw [← hwq]
            clear hwq hwc dq oq d6 p1
            clear z00 z01 z02 z03 z04 zf00 zf01 zf02 zf03 zf04 z10 z11 z12 z13 z14 z15 z16 z20 z21 z22 z23 z24 zf20 zf21 zf22 zf23 zf24 z30 z31 z32 z33 z34 zf30 zf31 zf32 zf33 zf34 z40 z41 z42 z43 z44 zf40 zf41 zf42 zf43 zf44
            go_wp2_with (first
              | (go_at_call 44; refine HWC.out.mono ?_; rintro e w8 ⟨A9, c9, rfl, hR9, o9⟩; have d7 := HDQ.out.quiet o9; have HR9 := Aside0.mk hR9; clear hR9; obtain ⟨t00, t01, t02, t03, t04, tf00, tf01, tf02, tf03, tf04⟩ := blk5 d7.b0; obtain ⟨t10, t11, t12, t13, t14, t15, t16⟩ := blk7 d7.b1; obtain ⟨t20, t21, t22, t23, t24, tf20, tf21, tf22, tf23, tf24⟩ := blk5 d7.b2; obtain ⟨t30, t31, t32, t33, t34, tf30, tf31, tf32, tf33, tf34⟩ := blk5 d7.b3; obtain ⟨t40, t41, t42, t43, t44, tf40, tf41, tf42, tf43, tf44⟩ := blk5 d7.b4))
            go_roundg d
            case measure => omega
            case rel =>
              have hcut : (wiped f boxes (d + 1)).eraseIdx d = wiped f boxes d := wiped_cut HX.out HK.out
              have hn9 : (wiped f boxes d).length = n8 - 1 := by
                have e1 := congrArg List.length hcut
                rw [List.length_eraseIdx, HN8.out, if_pos HDN.out] at e1
                exact e1.symm
              have o8 : Only w8 (w8.setCell ⟨w.heap.size, 3, none⟩ (.slice A9 (n8 - 1) c9)) [w.heap.size] := Only.setCell _ _ _
              have oall : Only w w8 [] := HOQ.out.trans o9 (by simp)
              refine ⟨d, _, A9, n8 - 1, c9, by have := HDL.out; omega, rfl, rfl, ⟨rfl⟩, ⟨hn9⟩, ⟨⟨?_, (o8.block _ (Array.getElem?_eq_some_iff.1 d7.b1).1 (by simp)).trans d7.b1, (o8.block _ (Array.getElem?_eq_some_iff.1 d7.b2).1 (by simp; omega)).trans d7.b2, (o8.block _ (Array.getElem?_eq_some_iff.1 d7.b3).1 (by simp; omega)).trans d7.b3, (o8.block _ (Array.getElem?_eq_some_iff.1 d7.b4).1 (by simp; omega)).trans d7.b4⟩⟩, ⟨?_⟩, ⟨oall.setNew _ (Nat.le_refl _) _⟩⟩
              · rw [heap_setCell d7.b0]
                rfl
              · have hR := HR9.out
                rw [hcut] at hR
                have hz := HOQ.out.size
                have hz2 := (Array.getElem?_eq_some_iff.1 HDQ.out.b4).1
                refine (hR.keep (w' := w8.setCell ⟨w.heap.size, 3, none⟩ (.slice A9 (n8 - 1) c9)) (fun k hk hP => o8.block k hk (by simp; omega))).to (fun k _ hP => ?_)
                rcases hP with hP | hP
                · exact hP
                · exact .inr (by omega)
          · have hkb : (dx.t == f) = false := by simpa using hk
            have HWK := Aside0.mk (wiped_keep HX.out hk)
            clear hk
            go_wp2_with fail
            go_quiet (fail)
            go_wp2_with fail
            go_roundg d
            case measure => omega
            case rel =>
              have oq : Only wr (wr.drewN nq) [] := ⟨rfl, rfl, rfl, Nat.le_refl _, fun _ _ _ => rfl⟩
              refine ⟨d, _, _, n8, c8, by have := HDL.out; omega, rfl, rfl, ⟨rfl⟩, ⟨by rw [← HWK.out]; exact HN8.out⟩, ⟨d6.quiet oq⟩, ⟨by rw [← HWK.out]; exact HRR.out.only oq⟩, ⟨HOR.out.trans oq (by simp)⟩⟩
  · have hfd : decide (1 ≤ f ∧ f ≤ nodes) = false := decide_eq_false hf
    have e0 : rwipe0 (Ref0.abs ⟨nodes, sent, way, boxes, lost⟩) f = (Ref0.abs ⟨nodes, sent, way, boxes, lost⟩, none, 90) := by
      have hb : rnodeB (Ref0.abs ⟨nodes, sent, way, boxes, lost⟩) f = false := hfd
      unfold rwipe0
      rw [if_pos hb]
    rw [e0]
    have HF := Aside0.mk hf
    clear hf e0
    go_enter Try.func24, Try.ntmps24
    go_wp2_with (first
      | (go_at_call 42; rw [← hw5]; refine (HN.out _ _).mono ?_; rintro e w4 ⟨rfl, o4⟩; rw [hfd]; have d4 := HD5.out.quiet o4; obtain ⟨y00, y01, y02, y03, y04, yf00, yf01, yf02, yf03, yf04⟩ := blk5 d4.b0; obtain ⟨y10, y11, y12, y13, y14, y15, y16⟩ := blk7 d4.b1; obtain ⟨y20, y21, y22, y23, y24, yf20, yf21, yf22, yf23, yf24⟩ := blk5 d4.b2; obtain ⟨y30, y31, y32, y33, y34, yf30, yf31, yf32, yf33, yf34⟩ := blk5 d4.b3; obtain ⟨y40, y41, y42, y43, y44, yf40, yf41, yf42, yf43, yf44⟩ := blk5 d4.b4))
    go_region
    all_goals go_wp2
    all_goals (
      refine bodyPost_ret (v := .tuple #[refAgg ⟨nodes, sent, way, boxes, lost⟩ (.slice A way.length c) (.slice A' boxes.length c'), zeroDg, .bool false, .int .i64 90]) (by simp [results, Try.results24, go_sem, zeroDg, *]) rfl (HS.out _ ?_ _)
      refine Only.doEnd (o5.trans o4 (by simp)) ?_
      (repeat (first | (with_reducible exact Only.refl _ _) | (with_reducible refine Only.setCells ?_ _ (by simp) _) | (with_reducible refine Only.drewk ?_))))
end Go.Proofs.Ytehgneiiajpgpaa
