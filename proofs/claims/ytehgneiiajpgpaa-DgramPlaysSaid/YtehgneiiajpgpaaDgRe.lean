/- dgram: the document's Do, a sending. -/
import Derived.Test.YtehgneiiajpgpaaDgRd
namespace Go.Proofs.Ytehgneiiajpgpaa
open Go.RowKit
set_option linter.all false
set_option maxHeartbeats 2000000
set_option maxRecDepth 100000

def rnodeB (R : RA) (k : Int) : Bool := decide (1 ≤ k ∧ k ≤ R.nodes)
def rsend0 (R : RA) (f t : Int) (b : List Int) : RA × Option D0 × Int :=
  if rnodeB R f = false ∨ rnodeB R t = false ∨ f = t then (R, none, 90) else if 1212 < b.length then (R, none, 91) else (rput0 { R with sent := u64s R.sent } ⟨f, t, u64s R.sent, b, false⟩, none, 0)
def RDid (w : World) (P : Nat → Prop) (r : RA × Option D0 × Int) (e : Ending) (w' : World) : Prop :=
  ∃ M' A c A' c' vx, e = .returned (.tuple #[refAgg M' (.slice A M'.way.length c) (.slice A' M'.boxes.length c'), vx, .bool r.2.1.isSome, .int .i64 r.2.2]) ∧ RAt w' (fun k => P k ∨ w.heap.size ≤ k) (.slice A M'.way.length c) (.slice A' M'.boxes.length c') M' ∧ M'.abs = r.1 ∧ Only w w' [] ∧
    match r.2.1 with
    | none => vx = zeroDg
    | some x => ∃ v, vx = dgAgg x v ∧ BytesIn w' (fun k => P k ∨ w.heap.size ≤ k) v x.b ∧ x.b.length ≤ 1212
theorem RAt.only {w W : World} {P : Nat → Prop} {vw vb : Value} {M : Ref0} (h : RAt w P vw vb M) (ho : Only w W []) : RAt W (fun k => P k ∨ w.heap.size ≤ k) vw vb M :=
  ⟨(h.way.only ho).to (fun k _ hk => .inl hk), (h.boxes.only ho).to (fun k _ hk => .inl hk)⟩
/-- Nothing done. -/
theorem RDid.same {w W : World} {P : Nat → Prop} {A A' : Option Addr} {c c' : Nat} {M : Ref0} (h : RAt w P (.slice A M.way.length c) (.slice A' M.boxes.length c') M) (ho : Only w W []) (code : Int) : RDid w P (M.abs, none, code) (.returned (.tuple #[refAgg M (.slice A M.way.length c) (.slice A' M.boxes.length c'), zeroDg, .bool false, .int .i64 code])) W :=
  ⟨M, A, c, A', c', zeroDg, rfl, h.only ho, rfl, ho, rfl⟩
/-- Do's five blocks at its start. -/
def doW (w : World) (net op : Array Value) : World := ((((w.alloc (.cells net 59)).alloc (.cells op 51)).alloc (.cells #[.int .i64 0, .int .u64 0, .slice none 0 0, .slice none 0 0, .int .i64 0] 59)).alloc (.cells zCells 54)).alloc (.cells zCells 54)
structure DoAt (W : World) (B : Nat) (net op : Array Value) : Prop where
  b0 : W.heap[B]? = some (.cells net 59 (0, 0))
  b1 : W.heap[B + 1]? = some (.cells op 51 (0, 0))
  b2 : W.heap[B + 1 + 1]? = some (.cells #[.int .i64 0, .int .u64 0, .slice none 0 0, .slice none 0 0, .int .i64 0] 59 (0, 0))
  b3 : W.heap[B + 1 + 1 + 1]? = some (.cells zCells 54 (0, 0))
  b4 : W.heap[B + 1 + 1 + 1 + 1]? = some (.cells zCells 54 (0, 0))
theorem doW_at (w : World) (net op : Array Value) : DoAt (doW w net op) w.heap.size net op := by
  unfold doW
  refine ⟨?_, ?_, ?_, ?_, ?_⟩
  · exact (Lib.alloc_old _ _ _ (by first | (simp; done) | (simp; omega))).trans ((Lib.alloc_old _ _ _ (by first | (simp; done) | (simp; omega))).trans ((Lib.alloc_old _ _ _ (by first | (simp; done) | (simp; omega))).trans ((Lib.alloc_old _ _ _ (by simp)).trans (heap_alloc_new w _))))
  · refine (Lib.alloc_old _ _ _ (by first | (simp; done) | (simp; omega))).trans ((Lib.alloc_old _ _ _ (by first | (simp; done) | (simp; omega))).trans ((Lib.alloc_old _ _ _ (by simp)).trans ?_))
    have := heap_alloc_new (w.alloc (.cells net 59)) (.cells op 51)
    simpa using this
  · refine (Lib.alloc_old _ _ _ (by first | (simp; done) | (simp; omega))).trans ((Lib.alloc_old _ _ _ (by simp)).trans ?_)
    have := heap_alloc_new ((w.alloc (.cells net 59)).alloc (.cells op 51)) (.cells #[.int .i64 0, .int .u64 0, .slice none 0 0, .slice none 0 0, .int .i64 0] 59)
    simpa using this
  · refine (Lib.alloc_old _ _ _ (by simp)).trans ?_
    have := heap_alloc_new (((w.alloc (.cells net 59)).alloc (.cells op 51)).alloc (.cells #[.int .i64 0, .int .u64 0, .slice none 0 0, .slice none 0 0, .int .i64 0] 59)) (.cells zCells 54)
    simpa using this
  · have := heap_alloc_new ((((w.alloc (.cells net 59)).alloc (.cells op 51)).alloc (.cells #[.int .i64 0, .int .u64 0, .slice none 0 0, .slice none 0 0, .int .i64 0] 59)).alloc (.cells zCells 54)) (.cells zCells 54)
    simpa using this
theorem doW_only (w : World) (net op : Array Value) : Only w (doW w net op) [] := ((((Only.alloc w _ []).allocs _).allocs _).allocs _).allocs _
theorem DoAt.only {W W' : World} {B : Nat} {net op : Array Value} {ks : List Nat} (h : DoAt W B net op) (ho : Only W W' ks) (hk : ∀ k ∈ ks, B + 1 + 1 + 1 + 1 < k) : DoAt W' B net op :=
  ⟨(ho.block _ (Array.getElem?_eq_some_iff.1 h.b0).1 (fun hm => by have := hk _ hm; omega)).trans h.b0, (ho.block _ (Array.getElem?_eq_some_iff.1 h.b1).1 (fun hm => by have := hk _ hm; omega)).trans h.b1, (ho.block _ (Array.getElem?_eq_some_iff.1 h.b2).1 (fun hm => by have := hk _ hm; omega)).trans h.b2,
    (ho.block _ (Array.getElem?_eq_some_iff.1 h.b3).1 (fun hm => by have := hk _ hm; omega)).trans h.b3, (ho.block _ (Array.getElem?_eq_some_iff.1 h.b4).1 (fun hm => by have := hk _ hm; omega)).trans h.b4⟩
theorem DoAt.quiet {W W' : World} {B : Nat} {net op : Array Value} (h : DoAt W B net op) (ho : Only W W' []) : DoAt W' B net op := h.only ho (fun _ h => by cases h)
theorem Only.setNew {w W : World} (h : Only w W []) (a : Addr) (ha : w.heap.size ≤ a.block) (v : Value) : Only w (W.setCell a v) [] := h.trans (Only.setCell W a v) (fun k hk => .inr (by rw [List.mem_singleton.1 hk]; exact ha))
theorem Only.doEnd {w W W' : World} (h : Only w W []) (h2 : Only W W' [w.heap.size + 1 + 1, w.heap.size + 1 + 1 + 1]) : Only w W' [] := h.trans h2 (fun k hk => .inr (by simp at hk; omega))
theorem RAt.old {w : World} {P : Nat → Prop} {vw vb : Value} {M : Ref0} (h : RAt w P vw vb M) : RAt w (fun k => P k ∧ k < w.heap.size) vw vb M := ⟨h.way.to (fun k hk hP => ⟨hP, hk⟩), h.boxes.to (fun k hk hP => ⟨hP, hk⟩)⟩
theorem RAt.doEnd {w W W' : World} {P : Nat → Prop} {vw vb : Value} {M : Ref0} {s : Nat} (h : RAt W (fun k => (P k ∧ k < w.heap.size) ∨ s ≤ k) vw vb M) (hs : w.heap.size + 1 + 1 + 1 < s) (ho : Only W W' [w.heap.size + 1 + 1, w.heap.size + 1 + 1 + 1]) : RAt W' (fun k => P k ∨ w.heap.size ≤ k) vw vb M := by
  have hk : ∀ k, k < W.heap.size → (P k ∧ k < w.heap.size) ∨ s ≤ k → W'.heap[k]? = W.heap[k]? := fun k hk hP => ho.block k hk (by simp; omega)
  exact ⟨(h.way.keep hk).to (fun k _ hP => hP.imp (·.1) (fun _ => by omega)), (h.boxes.keep hk).to (fun k _ hP => hP.imp (·.1) (fun _ => by omega))⟩
theorem rdo_0 (w : World) (P : Nat → Prop) (A A' : Option Addr) (c c' : Nat) (M : Ref0) (h : RAt w P (.slice A M.way.length c) (.slice A' M.boxes.length c') M) (hl : M.way.length ≤ 1024) (o : Op0) (hkd : o.kd = 0) (Ab : Option Addr) (cb : Nat) (b : List Int) (hb : BytesAt w (.slice Ab b.length cb) b) (hby : ∀ x ∈ b, 0 ≤ x ∧ x < 256) (hbl : b.length ≤ 140737488355328) :
    Calls Try.prog 24 #[refAgg M (.slice A M.way.length c) (.slice A' M.boxes.length c'), .agg (opCells o Ab b.length cb)] w (RDid w P (rsend0 M.abs o.f o.t b)) := by
  obtain ⟨kd, f, t, i, at', m⟩ := o
  obtain rfl : kd = 0 := hkd
  have hnode := fun W k => rnode_c W M (.slice A M.way.length c) (.slice A' M.boxes.length c') k
  have HN := Aside0.mk hnode
  clear hnode
  obtain ⟨nodes, sent, way, boxes, lost⟩ := M
  dsimp only at h hl hb HN ⊢
  obtain ⟨w5, hw5⟩ : ∃ w5, w5 = doW w #[.int .i64 nodes, .int .u64 sent, .slice A way.length c, .slice A' boxes.length c', .int .i64 lost] (opCells ⟨0, f, t, i, at', m⟩ Ab b.length cb) := ⟨_, rfl⟩
  have o5 : Only w w5 [] := by rw [hw5]; exact doW_only w _ _
  have d5 : DoAt w5 w.heap.size #[.int .i64 nodes, .int .u64 sent, .slice A way.length c, .slice A' boxes.length c', .int .i64 lost] (opCells ⟨0, f, t, i, at', m⟩ Ab b.length cb) := by rw [hw5]; exact doW_at w _ _
  have hbo := fun W (hW : Only w W []) => RDid.same (W := W) (M := ⟨nodes, sent, way, boxes, lost⟩) h hW
  have HS := Aside0.mk hbo
  clear hbo
  have HD5 := Aside0.mk d5
  unfold doW at hw5
  obtain ⟨x00, x01, x02, x03, x04, xf00, xf01, xf02, xf03, xf04⟩ := blk5 d5.b0
  obtain ⟨x10, x11, x12, x13, x14, x15, x16⟩ := blk7 d5.b1
  obtain ⟨x20, x21, x22, x23, x24, xf20, xf21, xf22, xf23, xf24⟩ := blk5 d5.b2
  obtain ⟨x30, x31, x32, x33, x34, xf30, xf31, xf32, xf33, xf34⟩ := blk5 d5.b3
  obtain ⟨x40, x41, x42, x43, x44, xf40, xf41, xf42, xf43, xf44⟩ := blk5 d5.b4
  by_cases hf : 1 ≤ f ∧ f ≤ nodes
  · have hfd : decide (1 ≤ f ∧ f ≤ nodes) = true := decide_eq_true hf
    by_cases ht : 1 ≤ t ∧ t ≤ nodes
    · have htd : decide (1 ≤ t ∧ t ≤ nodes) = true := decide_eq_true ht
      by_cases hft : f = t
      · subst hft
        have e0 : rsend0 (Ref0.abs ⟨nodes, sent, way, boxes, lost⟩) f f b = (Ref0.abs ⟨nodes, sent, way, boxes, lost⟩, none, 90) := by unfold rsend0; rw [if_pos (.inr (.inr rfl))]
        rw [e0]
        have HF := Aside0.mk hf
        clear hf ht htd e0
        go_enter Try.func24, Try.ntmps24
        go_wp2_with (first
          | (go_at_call 42; refine (HN.out w4 _).mono ?_; rintro e w6 ⟨rfl, o6⟩; rw [hfd]; have d6 := d4.quiet o6; obtain ⟨z00, z01, z02, z03, z04, zf00, zf01, zf02, zf03, zf04⟩ := blk5 d6.b0; obtain ⟨z10, z11, z12, z13, z14, z15, z16⟩ := blk7 d6.b1; obtain ⟨z20, z21, z22, z23, z24, zf20, zf21, zf22, zf23, zf24⟩ := blk5 d6.b2; obtain ⟨z30, z31, z32, z33, z34, zf30, zf31, zf32, zf33, zf34⟩ := blk5 d6.b3; obtain ⟨z40, z41, z42, z43, z44, zf40, zf41, zf42, zf43, zf44⟩ := blk5 d6.b4)
          | (go_at_call 42; rw [← hw5]; refine (HN.out _ _).mono ?_; rintro e w4 ⟨rfl, o4⟩; rw [hfd]; have d4 := HD5.out.quiet o4; obtain ⟨y00, y01, y02, y03, y04, yf00, yf01, yf02, yf03, yf04⟩ := blk5 d4.b0; obtain ⟨y10, y11, y12, y13, y14, y15, y16⟩ := blk7 d4.b1; obtain ⟨y20, y21, y22, y23, y24, yf20, yf21, yf22, yf23, yf24⟩ := blk5 d4.b2; obtain ⟨y30, y31, y32, y33, y34, yf30, yf31, yf32, yf33, yf34⟩ := blk5 d4.b3; obtain ⟨y40, y41, y42, y43, y44, yf40, yf41, yf42, yf43, yf44⟩ := blk5 d4.b4))
        go_region
        all_goals go_wp2
        all_goals (
          refine bodyPost_ret (v := .tuple #[refAgg ⟨nodes, sent, way, boxes, lost⟩ (.slice A way.length c) (.slice A' boxes.length c'), zeroDg, .bool false, .int .i64 90]) (by simp [results, Try.results24, go_sem, zeroDg, *]) rfl (HS.out _ ?_ _)
          refine Only.doEnd ((o5.trans o4 (by simp)).trans o6 (by simp)) ?_
          (repeat (first | (with_reducible exact Only.refl _ _) | (with_reducible refine Only.setCells ?_ _ (by simp) _) | (with_reducible refine Only.drewk ?_))))
      · have hftb : (f == t) = false := by simpa using hft
        by_cases hlb : 1212 < b.length
        · have e0 : rsend0 (Ref0.abs ⟨nodes, sent, way, boxes, lost⟩) f t b = (Ref0.abs ⟨nodes, sent, way, boxes, lost⟩, none, 91) := by
            unfold rsend0
            rw [if_neg (by rintro (hh | hh | hh); exact absurd (hfd.symm.trans hh) (by simp); exact absurd (htd.symm.trans hh) (by simp); exact hft hh), if_pos hlb]
          rw [e0]
          have HF := Aside0.mk hf
          have HT := Aside0.mk ht
          have HFT := Aside0.mk hft
          clear hf ht e0 hft
          go_enter Try.func24, Try.ntmps24
          go_wp2_with (first
            | (go_at_call 42; refine (HN.out w4 _).mono ?_; rintro e w6 ⟨rfl, o6⟩; rw [htd]; have d6 := d4.quiet o6; obtain ⟨z00, z01, z02, z03, z04, zf00, zf01, zf02, zf03, zf04⟩ := blk5 d6.b0; obtain ⟨z10, z11, z12, z13, z14, z15, z16⟩ := blk7 d6.b1; obtain ⟨z20, z21, z22, z23, z24, zf20, zf21, zf22, zf23, zf24⟩ := blk5 d6.b2; obtain ⟨z30, z31, z32, z33, z34, zf30, zf31, zf32, zf33, zf34⟩ := blk5 d6.b3; obtain ⟨z40, z41, z42, z43, z44, zf40, zf41, zf42, zf43, zf44⟩ := blk5 d6.b4)
            | (go_at_call 42; rw [← hw5]; refine (HN.out _ _).mono ?_; rintro e w4 ⟨rfl, o4⟩; rw [hfd]; have d4 := HD5.out.quiet o4; obtain ⟨y00, y01, y02, y03, y04, yf00, yf01, yf02, yf03, yf04⟩ := blk5 d4.b0; obtain ⟨y10, y11, y12, y13, y14, y15, y16⟩ := blk7 d4.b1; obtain ⟨y20, y21, y22, y23, y24, yf20, yf21, yf22, yf23, yf24⟩ := blk5 d4.b2; obtain ⟨y30, y31, y32, y33, y34, yf30, yf31, yf32, yf33, yf34⟩ := blk5 d4.b3; obtain ⟨y40, y41, y42, y43, y44, yf40, yf41, yf42, yf43, yf44⟩ := blk5 d4.b4))
          go_region
          all_goals go_wp2
          all_goals (
            refine bodyPost_ret (v := .tuple #[refAgg ⟨nodes, sent, way, boxes, lost⟩ (.slice A way.length c) (.slice A' boxes.length c'), zeroDg, .bool false, .int .i64 91]) (by simp [results, Try.results24, go_sem, zeroDg, *]) rfl (HS.out _ ?_ _)
            refine Only.doEnd ((o5.trans o4 (by simp)).trans o6 (by simp)) ?_
            (repeat (first | (with_reducible exact Only.refl _ _) | (with_reducible refine Only.setCells ?_ _ (by simp) _) | (with_reducible refine Only.drewk ?_))))
        · obtain ⟨sx, hsx⟩ : ∃ sx, sx = u64s sent := ⟨_, rfl⟩
          have e0 : rsend0 (Ref0.abs ⟨nodes, sent, way, boxes, lost⟩) f t b = (rput0 (Ref0.abs ⟨nodes, sx, way, boxes, lost⟩) ⟨f, t, sx, b, false⟩, none, 0) := by
            unfold rsend0
            rw [if_neg (by rintro (hh | hh | hh); exact absurd (hfd.symm.trans hh) (by simp); exact absurd (htd.symm.trans hh) (by simp); exact hft hh), if_neg hlb]
            rw [hsx]
            rfl
          rw [e0]
          have hp := fun W (hW : Only w W []) => rput_c W (fun k => P k ∧ k < w.heap.size) A A' c c' ⟨nodes, sx, way, boxes, lost⟩ ⟨h.old.way.only hW, h.old.boxes.only hW⟩ hl ⟨f, t, sx, b, false⟩ (.slice Ab b.length cb) (hb.only hW) (by show b.length ≤ 1212; omega) hby
          have HP := Aside0.mk hp
          have HF := Aside0.mk hf
          have HT := Aside0.mk ht
          have HFT := Aside0.mk hft
          clear hf ht e0 hft hp
          go_enter Try.func24, Try.ntmps24
          go_wp2_with (first
            | (go_at_call 42; refine (HN.out w4 _).mono ?_; rintro e w6 ⟨rfl, o6⟩; rw [htd]; have d6 := d4.quiet o6; have o06 : Only w w6 [] := (o5.trans o4 (by simp)).trans o6 (by simp); obtain ⟨z00, z01, z02, z03, z04, zf00, zf01, zf02, zf03, zf04⟩ := blk5 d6.b0; obtain ⟨z10, z11, z12, z13, z14, z15, z16⟩ := blk7 d6.b1; obtain ⟨z20, z21, z22, z23, z24, zf20, zf21, zf22, zf23, zf24⟩ := blk5 d6.b2; obtain ⟨z30, z31, z32, z33, z34, zf30, zf31, zf32, zf33, zf34⟩ := blk5 d6.b3; obtain ⟨z40, z41, z42, z43, z44, zf40, zf41, zf42, zf43, zf44⟩ := blk5 d6.b4)
            | (go_at_call 42; rw [← hw5]; refine (HN.out _ _).mono ?_; rintro e w4 ⟨rfl, o4⟩; rw [hfd]; have d4 := HD5.out.quiet o4; obtain ⟨y00, y01, y02, y03, y04, yf00, yf01, yf02, yf03, yf04⟩ := blk5 d4.b0; obtain ⟨y10, y11, y12, y13, y14, y15, y16⟩ := blk7 d4.b1; obtain ⟨y20, y21, y22, y23, y24, yf20, yf21, yf22, yf23, yf24⟩ := blk5 d4.b2; obtain ⟨y30, y31, y32, y33, y34, yf30, yf31, yf32, yf33, yf34⟩ := blk5 d4.b3; obtain ⟨y40, y41, y42, y43, y44, yf40, yf41, yf42, yf43, yf44⟩ := blk5 d4.b4))
          obtain ⟨w7, hw7⟩ : ∃ w7, w7 = w6.setCell ⟨w.heap.size, 1, none⟩ (.int .u64 (sx)) := ⟨_, rfl⟩
          have o67 : Only w6 w7 [w.heap.size] := by rw [hw7]; exact Only.setCell _ _ _
          have o07 : Only w w7 [] := by rw [hw7]; exact o06.setNew _ (Nat.le_refl _) _
          have d7 : DoAt w7 w.heap.size #[.int .i64 nodes, .int .u64 (sx), .slice A way.length c, .slice A' boxes.length c', .int .i64 lost] (opCells ⟨0, f, t, i, at', m⟩ Ab b.length cb) := by
            refine ⟨?_, (o67.block _ (Array.getElem?_eq_some_iff.1 d6.b1).1 (by simp)).trans d6.b1, (o67.block _ (Array.getElem?_eq_some_iff.1 d6.b2).1 (by simp; omega)).trans d6.b2, (o67.block _ (Array.getElem?_eq_some_iff.1 d6.b3).1 (by simp; omega)).trans d6.b3, (o67.block _ (Array.getElem?_eq_some_iff.1 d6.b4).1 (by simp; omega)).trans d6.b4⟩
            rw [hw7, heap_setCell d6.b0]
            rfl
          have hall : ∀ W, Only w7 W [w.heap.size + 1 + 1, w.heap.size + 1 + 1 + 1] → W.cell? ⟨w.heap.size, 0, none⟩ = some (.int .i64 nodes) ∧ W.cell? ⟨w.heap.size, 1, none⟩ = some (.int .u64 (sx)) ∧ W.cell? ⟨w.heap.size, 2, none⟩ = some (.slice A way.length c) ∧ W.cell? ⟨w.heap.size, 3, none⟩ = some (.slice A' boxes.length c') ∧ W.cell? ⟨w.heap.size, 4, none⟩ = some (.int .i64 lost) ∧ W.cell? ⟨w.heap.size + 1, 1, none⟩ = some (.int .i64 f) ∧ W.cell? ⟨w.heap.size + 1, 2, none⟩ = some (.int .i64 t) ∧ W.cell? ⟨w.heap.size + 1, 6, none⟩ = some (.slice Ab b.length cb) ∧ W.cell? ⟨w.heap.size + 1 + 1 + 1 + 1, 0, none⟩ = some (.int .i64 0) ∧ W.cell? ⟨w.heap.size + 1 + 1 + 1 + 1, 1, none⟩ = some (.int .i64 0) ∧ W.cell? ⟨w.heap.size + 1 + 1 + 1 + 1, 2, none⟩ = some (.int .u64 0) ∧ W.cell? ⟨w.heap.size + 1 + 1 + 1 + 1, 3, none⟩ = some (.slice none 0 0) ∧ W.cell? ⟨w.heap.size + 1 + 1 + 1 + 1, 4, none⟩ = some (.bool false) := fun W hW => by
            obtain ⟨q0, q1, q2, q3, q4, _⟩ := blk5 ((hW.block _ (Array.getElem?_eq_some_iff.1 d7.b0).1 (by simp <;> omega)).trans d7.b0)
            obtain ⟨_, r1, r2, _, _, _, r6⟩ := blk7 ((hW.block _ (Array.getElem?_eq_some_iff.1 d7.b1).1 (by simp; try omega)).trans d7.b1)
            obtain ⟨s0, s1, s2, s3, s4, _⟩ := blk5 ((hW.block _ (Array.getElem?_eq_some_iff.1 d7.b4).1 (by simp; try omega)).trans d7.b4)
            exact ⟨q0, q1, q2, q3, q4, r1, r2, r6, s0, s1, s2, s3, s4⟩
          have hb4 := d7.b4
          have h71 : w.heap.size < w7.heap.size := (Array.getElem?_eq_some_iff.1 d7.b0).1
          rw [show w6.setCell ⟨w.heap.size, 1, none⟩ (.int .u64 (IntKind.u64.wrap (sent + 1))) = w7 by rw [hw7, hsx]; rfl]
          clear hw7 hsx
          go_region_held3 (fun W => W.cell? ⟨w.heap.size, 0, none⟩ = some (.int .i64 nodes) ∧ W.cell? ⟨w.heap.size, 1, none⟩ = some (.int .u64 (sx)) ∧ W.cell? ⟨w.heap.size, 2, none⟩ = some (.slice A way.length c) ∧ W.cell? ⟨w.heap.size, 3, none⟩ = some (.slice A' boxes.length c') ∧ W.cell? ⟨w.heap.size, 4, none⟩ = some (.int .i64 lost) ∧ W.cell? ⟨w.heap.size + 1, 1, none⟩ = some (.int .i64 f) ∧ W.cell? ⟨w.heap.size + 1, 2, none⟩ = some (.int .i64 t) ∧ W.cell? ⟨w.heap.size + 1, 6, none⟩ = some (.slice Ab b.length cb) ∧ W.cell? ⟨w.heap.size + 1 + 1 + 1 + 1, 0, none⟩ = some (.int .i64 0) ∧ W.cell? ⟨w.heap.size + 1 + 1 + 1 + 1, 1, none⟩ = some (.int .i64 0) ∧ W.cell? ⟨w.heap.size + 1 + 1 + 1 + 1, 2, none⟩ = some (.int .u64 0) ∧ W.cell? ⟨w.heap.size + 1 + 1 + 1 + 1, 3, none⟩ = some (.slice none 0 0) ∧ W.cell? ⟨w.heap.size + 1 + 1 + 1 + 1, 4, none⟩ = some (.bool false))
            ((refine hall _ ?_; (repeat (first | (with_reducible assumption) | (with_reducible exact Only.refl _ _) | (with_reducible refine Only.setCells ?_ _ (by simp) _) | (with_reducible refine Only.drewk ?_)))))
            (first | (go_at_call 43; refine (HP.out w7.drew o07.drews).mono ?_; rintro e w8 ⟨M8, A8, c8, A8', c8', rfl, hR8, habs8, o8⟩; obtain ⟨nodes', sent', way', boxes', lost'⟩ := M8; have o78 : Only w7 w8 [w.heap.size + 1 + 1, w.heap.size + 1 + 1 + 1] := ((Only.refl w7 _).drewk).trans o8 (by simp); have d7 := d7.quiet ((Only.drew w7 []).trans o8 (by simp)); obtain ⟨t00, t01, t02, t03, t04, tf00, tf01, tf02, tf03, tf04⟩ := blk5 d7.b0; obtain ⟨t10, t11, t12, t13, t14, t15, t16⟩ := blk7 d7.b1; obtain ⟨t20, t21, t22, t23, t24, tf20, tf21, tf22, tf23, tf24⟩ := blk5 d7.b2; obtain ⟨t30, t31, t32, t33, t34, tf30, tf31, tf32, tf33, tf34⟩ := blk5 d7.b3; obtain ⟨t40, t41, t42, t43, t44, tf40, tf41, tf42, tf43, tf44⟩ := blk5 d7.b4))
          all_goals go_wp2
          all_goals (
            have h78 : w.heap.size + 1 + 1 + 1 < w7.drew.heap.size := by have := (Array.getElem?_eq_some_iff.1 hb4).1; show _ < w7.heap.size; omega
            have key : ∀ W', Only w8 W' [w.heap.size + 1 + 1, w.heap.size + 1 + 1 + 1] → RDid w P (rput0 (Ref0.abs ⟨nodes, sx, way, boxes, lost⟩) ⟨f, t, sx, b, false⟩, none, 0) (.returned (.tuple #[refAgg ⟨nodes', sent', way', boxes', lost'⟩ (.slice A8 way'.length c8) (.slice A8' boxes'.length c8'), zeroDg, .bool false, .int .i64 0])) W' := fun W' oF =>
              ⟨⟨nodes', sent', way', boxes', lost'⟩, A8, c8, A8', c8', zeroDg, rfl, hR8.doEnd h78 oF, habs8, ((o07.drews).trans o8 (by simp)).doEnd oF, rfl⟩
            refine bodyPost_ret (v := .tuple #[refAgg ⟨nodes', sent', way', boxes', lost'⟩ (.slice A8 way'.length c8) (.slice A8' boxes'.length c8'), zeroDg, .bool false, .int .i64 0]) (by simp [results, Try.results24, go_sem, zeroDg, *]) rfl (key _ ?_)
            (repeat (first | (with_reducible exact Only.refl _ _) | (with_reducible refine Only.setCells ?_ _ (by simp) _) | (with_reducible refine Only.drewk ?_))))
    · have htd : decide (1 ≤ t ∧ t ≤ nodes) = false := decide_eq_false ht
      have e0 : rsend0 (Ref0.abs ⟨nodes, sent, way, boxes, lost⟩) f t b = (Ref0.abs ⟨nodes, sent, way, boxes, lost⟩, none, 90) := by unfold rsend0; rw [if_pos (.inr (.inl htd))]
      rw [e0]
      have HF := Aside0.mk hf
      have HT := Aside0.mk ht
      clear hf ht e0
      go_enter Try.func24, Try.ntmps24
      go_wp2_with (first
        | (go_at_call 42; refine (HN.out w4 _).mono ?_; rintro e w6 ⟨rfl, o6⟩; rw [htd]; have d6 := d4.quiet o6; obtain ⟨z00, z01, z02, z03, z04, zf00, zf01, zf02, zf03, zf04⟩ := blk5 d6.b0; obtain ⟨z10, z11, z12, z13, z14, z15, z16⟩ := blk7 d6.b1; obtain ⟨z20, z21, z22, z23, z24, zf20, zf21, zf22, zf23, zf24⟩ := blk5 d6.b2; obtain ⟨z30, z31, z32, z33, z34, zf30, zf31, zf32, zf33, zf34⟩ := blk5 d6.b3; obtain ⟨z40, z41, z42, z43, z44, zf40, zf41, zf42, zf43, zf44⟩ := blk5 d6.b4)
        | (go_at_call 42; rw [← hw5]; refine (HN.out _ _).mono ?_; rintro e w4 ⟨rfl, o4⟩; rw [hfd]; have d4 := HD5.out.quiet o4; obtain ⟨y00, y01, y02, y03, y04, yf00, yf01, yf02, yf03, yf04⟩ := blk5 d4.b0; obtain ⟨y10, y11, y12, y13, y14, y15, y16⟩ := blk7 d4.b1; obtain ⟨y20, y21, y22, y23, y24, yf20, yf21, yf22, yf23, yf24⟩ := blk5 d4.b2; obtain ⟨y30, y31, y32, y33, y34, yf30, yf31, yf32, yf33, yf34⟩ := blk5 d4.b3; obtain ⟨y40, y41, y42, y43, y44, yf40, yf41, yf42, yf43, yf44⟩ := blk5 d4.b4))
      go_region
      all_goals go_wp2
      all_goals (
        refine bodyPost_ret (v := .tuple #[refAgg ⟨nodes, sent, way, boxes, lost⟩ (.slice A way.length c) (.slice A' boxes.length c'), zeroDg, .bool false, .int .i64 90]) (by simp [results, Try.results24, go_sem, zeroDg, *]) rfl (HS.out _ ?_ _)
        refine Only.doEnd ((o5.trans o4 (by simp)).trans o6 (by simp)) ?_
        (repeat (first | (with_reducible exact Only.refl _ _) | (with_reducible refine Only.setCells ?_ _ (by simp) _) | (with_reducible refine Only.drewk ?_))))
  · have hfd : decide (1 ≤ f ∧ f ≤ nodes) = false := decide_eq_false hf
    have e0 : rsend0 (Ref0.abs ⟨nodes, sent, way, boxes, lost⟩) f t b = (Ref0.abs ⟨nodes, sent, way, boxes, lost⟩, none, 90) := by unfold rsend0; rw [if_pos (.inl hfd)]
    rw [e0]
    have HF := Aside0.mk hf
    clear hf e0
    go_enter Try.func24, Try.ntmps24
    go_wp2_with (first
      | (go_at_call 42; rw [← hw5]; refine (HN.out _ _).mono ?_; rintro e w4 ⟨rfl, o4⟩; rw [hfd]; have d4 := HD5.out.quiet o4; obtain ⟨y00, y01, y02, y03, y04, yf00, yf01, yf02, yf03, yf04⟩ := blk5 d4.b0; obtain ⟨y10, y11, y12, y13, y14, y15, y16⟩ := blk7 d4.b1; obtain ⟨y20, y21, y22, y23, y24, yf20, yf21, yf22, yf23, yf24⟩ := blk5 d4.b2; obtain ⟨y30, y31, y32, y33, y34, yf30, yf31, yf32, yf33, yf34⟩ := blk5 d4.b3; obtain ⟨y40, y41, y42, y43, y44, yf40, yf41, yf42, yf43, yf44⟩ := blk5 d4.b4))
    go_region
    all_goals go_wp2
    all_goals (
      refine bodyPost_ret (v := .tuple #[refAgg ⟨nodes, sent, way, boxes, lost⟩ (.slice A way.length c) (.slice A' boxes.length c'), zeroDg, .bool false, .int .i64 90]) (by simp [results, Try.results24, go_sem, zeroDg, *]) rfl (HS.out _ ?_ _)
      refine Only.doEnd (o5.trans o4 (by simp)) ?_
      (repeat (first | (with_reducible exact Only.refl _ _) | (with_reducible refine Only.setCells ?_ _ (by simp) _) | (with_reducible refine Only.drewk ?_))))
end Go.Proofs.Ytehgneiiajpgpaa
