/- dgram: the document's Do, a spoiling. -/
import Derived.Test.YtehgneiiajpgpaaDgRk
namespace Go.Proofs.Ytehgneiiajpgpaa
open Go.RowKit
set_option linter.all false
set_option maxHeartbeats 2000000
set_option maxRecDepth 100000

def mdiv (m : Int) : Nat → Int
  | 0 => m
  | t + 1 => mdiv m t / 256
def spR (m : Int) (a : Nat) (b : List Int) : Nat → List Int
  | 0 => b
  | t + 1 => spStep m a (spR m a b t) (3 - t)
theorem spR_len (m : Int) (a : Nat) (b : List Int) : ∀ t, (spR m a b t).length = b.length
  | 0 => rfl
  | t + 1 => by rw [spR, spStep_len, spR_len m a b t]
theorem spStep_comm (m : Int) (a : Nat) (B : List Int) (i j : Nat) (h : i ≠ j) : spStep m a (spStep m a B i) j = spStep m a (spStep m a B j) i := by
  unfold spStep
  apply List.ext_getElem?
  intro k
  simp only [List.getElem?_modify]
  by_cases h1 : a + i = k <;> by_cases h2 : a + j = k <;> simp [h1, h2]
  omega
theorem spR_4 (m : Int) (a : Nat) (b : List Int) : spR m a b 4 = spoilB m a b := by
  show spStep m a (spStep m a (spStep m a (spStep m a b 3) 2) 1) 0 = spStep m a (spStep m a (spStep m a (spStep m a b 0) 1) 2) 3
  rw [spStep_comm m a b 3 2 (by decide), spStep_comm m a (spStep m a b 2) 3 1 (by decide), spStep_comm m a b 2 1 (by decide), spStep_comm m a (spStep m a (spStep m a b 1) 2) 3 0 (by decide), spStep_comm m a (spStep m a b 1) 2 0 (by decide), spStep_comm m a b 1 0 (by decide)]
theorem rr_set5 {W' : World} {P : Nat → Prop} {gA capA : Nat} {cur : Array Value} {l : List (D0 × Value)} {n : Nat} {x : D0 × Value} {v0 v1 v2 v3 v4 : Value} (hx : cellsR x = [v0, v1, v2, v3, v4]) (hn : n < l.length) (hl : l.length ≤ capA ∧ capA ≤ maxLen) (hcs : l.length * 5 ≤ cur.size) (hcur : cur.toList.take (l.length * 5) = flatR l)
    (hW : W'.heap[gA]? = some (.cells (((((cur.setIfInBounds (n * 5) v0).setIfInBounds (n * 5 + 1) v1).setIfInBounds (n * 5 + 2) v2).setIfInBounds (n * 5 + 3) v3).setIfInBounds (n * 5 + 4) v4) 54 (0, 0))) (hP : P gA) (hb : ∀ y ∈ l.set n x, BytesIn W' P y.2 y.1.b ∧ y.1.b.length ≤ 1212 ∧ ∀ z ∈ y.1.b, 0 ≤ z ∧ z < 256) : RRow W' P (.slice (some ⟨gA, 0, none⟩) l.length capA) (l.set n x) := by
  refine ⟨⟨_, capA, by rw [List.length_set], by rw [List.length_set]; exact hl, fun i y hy => ⟨gA, 0, rfl, hP, fun j u hj => ?_⟩⟩, hb⟩
  have hj5 : j < 5 := by
    have := (List.getElem?_eq_some_iff.1 hj).1
    simpa [cellsR] using this
  rw [Lib.cell_of_heap hW, Nat.zero_add]
  rw [List.getElem?_set] at hy
  by_cases hi : n = i
  · subst hi
    rw [if_pos rfl, if_pos hn] at hy
    obtain rfl := Option.some.inj hy
    rw [hx] at hj
    have h5 : j = 0 ∨ j = 1 ∨ j = 2 ∨ j = 3 ∨ j = 4 := by omega
    rcases h5 with rfl | rfl | rfl | rfl | rfl <;> simp at hj <;> subst hj <;> simp [Array.getElem?_setIfInBounds] <;> omega
  · rw [if_neg hi] at hy
    have hil : i < l.length := (List.getElem?_eq_some_iff.1 hy).1
    have hf := flatR_at l i y hy j u hj
    rw [← hcur, List.getElem?_take, if_pos (by omega)] at hf
    have h0 : ¬ n * 5 = i * 5 + j := by omega
    have h1 : ¬ n * 5 + 1 = i * 5 + j := by omega
    have h2 : ¬ n * 5 + 2 = i * 5 + j := by omega
    have h3 : ¬ n * 5 + 3 = i * 5 + j := by omega
    have h4 : ¬ n * 5 + 4 = i * 5 + j := by omega
    simp only [Array.getElem?_setIfInBounds, h0, h1, h2, h3, h4, if_false]
    simpa using hf
theorem rdo_4 (w : World) (P : Nat → Prop) (A A' : Option Addr) (c c' : Nat) (M : Ref0) (h : RAt w P (.slice A M.way.length c) (.slice A' M.boxes.length c') M) (hl : M.way.length ≤ 1024) (hlb : M.boxes.length ≤ 99999) (o : Op0) (hkd : o.kd = 4) (hm : 0 ≤ o.m ∧ o.m < 4294967296) (Ab : Option Addr) (cb nb : Nat) :
    Calls Try.prog 24 #[refAgg M (.slice A M.way.length c) (.slice A' M.boxes.length c'), .agg (opCells o Ab nb cb)] w (RDid w P (rspoil0 M.abs o.i o.at' o.m)) := by
  obtain ⟨kd, f, t, i, at', m⟩ := o
  obtain rfl : kd = 4 := hkd
  obtain ⟨nodes, sent, way, boxes, lost⟩ := M
  dsimp only at h hl hlb hm ⊢
  obtain ⟨w5, hw5⟩ : ∃ w5, w5 = doW w #[.int .i64 nodes, .int .u64 sent, .slice A way.length c, .slice A' boxes.length c', .int .i64 lost] (opCells ⟨4, f, t, i, at', m⟩ Ab nb cb) := ⟨_, rfl⟩
  have o5 : Only w w5 [] := by rw [hw5]; exact doW_only w _ _
  have d5 : DoAt w5 w.heap.size #[.int .i64 nodes, .int .u64 sent, .slice A way.length c, .slice A' boxes.length c', .int .i64 lost] (opCells ⟨4, f, t, i, at', m⟩ Ab nb cb) := by rw [hw5]; exact doW_at w _ _
  have hbo := fun W (hW : Only w W []) => RDid.same (W := W) (M := ⟨nodes, sent, way, boxes, lost⟩) h hW
  have HS := Aside0.mk hbo
  have HH := Aside0.mk h
  clear hbo
  have HD5 := Aside0.mk d5
  have ho := hw5
  unfold doW at hw5
  have HM := Aside0.mk hm
  clear hm
  by_cases h0 : i < 0
  · have e0 : rspoil0 (Ref0.abs ⟨nodes, sent, way, boxes, lost⟩) i at' m = (Ref0.abs ⟨nodes, sent, way, boxes, lost⟩, none, 92) := by unfold rspoil0; rw [if_pos (.inl h0)]
    rw [e0]
    clear e0
    go_enter Try.func24, Try.ntmps24
    go_wp2
    go_region
    all_goals go_wp2
    all_goals (
      refine bodyPost_ret (v := .tuple #[refAgg ⟨nodes, sent, way, boxes, lost⟩ (.slice A way.length c) (.slice A' boxes.length c'), zeroDg, .bool false, .int .i64 92]) (by simp [results, Try.results24, go_sem, zeroDg, *]) rfl (HS.out _ ?_ _)
      (repeat (first | (with_reducible assumption) | (with_reducible exact Only.refl _ _) | (with_reducible refine Only.allocs ?_ _) | (with_reducible refine Only.drews ?_) | (with_reducible refine Only.setNew ?_ _ (by dsimp only; omega) _))))
  by_cases h1 : (way.length : Int) ≤ i
  · have e0 : rspoil0 (Ref0.abs ⟨nodes, sent, way, boxes, lost⟩) i at' m = (Ref0.abs ⟨nodes, sent, way, boxes, lost⟩, none, 92) := by unfold rspoil0; rw [if_pos (.inr (by simpa [Ref0.abs] using h1))]
    rw [e0]
    clear e0
    have z1 : (0 : Int) ≤ i := by omega
    go_enter Try.func24, Try.ntmps24
    go_wp2
    go_region
    all_goals go_wp2
    all_goals (
      refine bodyPost_ret (v := .tuple #[refAgg ⟨nodes, sent, way, boxes, lost⟩ (.slice A way.length c) (.slice A' boxes.length c'), zeroDg, .bool false, .int .i64 92]) (by simp [results, Try.results24, go_sem, zeroDg, *]) rfl (HS.out _ ?_ _)
      (repeat (first | (with_reducible assumption) | (with_reducible exact Only.refl _ _) | (with_reducible refine Only.allocs ?_ _) | (with_reducible refine Only.drews ?_) | (with_reducible refine Only.setNew ?_ _ (by dsimp only; omega) _))))
  obtain ⟨n, rfl⟩ : ∃ n : Nat, i = n := ⟨i.toNat, by omega⟩
  have hn : n < way.length := by omega
  obtain ⟨⟨dx, vx⟩, hx⟩ : ∃ x, way[n]? = some x := ⟨_, List.getElem?_eq_getElem hn⟩
  have hgood : ¬ rbad (Ref0.abs ⟨nodes, sent, way, boxes, lost⟩) (n : Int) := by unfold rbad; simp [Ref0.abs]; omega
  have hdx : (Ref0.abs ⟨nodes, sent, way, boxes, lost⟩).way[n]? = some dx := by simp [Ref0.abs, hx]
  obtain ⟨⟨_, _, hv, hcc, hel⟩, hby⟩ := h.way.only o5
  obtain ⟨g, off, ha, _, hcell⟩ := hel n _ hx
  obtain ⟨⟨⟨Ax, cx, hvx, _⟩, _⟩, hdl, hdy⟩ := hby _ (List.mem_of_getElem? hx)
  dsimp only at hvx hdl hdy
  subst hvx
  simp only [Value.slice.injEq] at hv
  obtain ⟨rfl, _, rfl⟩ := hv
  subst ha
  have p0 : w5.cell? ⟨g, off + n * 5, none⟩ = some (.int .i64 dx.f) := hcell 0 _ rfl
  have p1 : w5.cell? ⟨g, off + n * 5 + 1, none⟩ = some (.int .i64 dx.t) := hcell 1 _ rfl
  have p2 : w5.cell? ⟨g, off + n * 5 + 2, none⟩ = some (.int .u64 dx.n) := hcell 2 _ rfl
  have p3 : w5.cell? ⟨g, off + n * 5 + 3, none⟩ = some (.slice Ax dx.b.length cx) := hcell 3 _ rfl
  have p4 : w5.cell? ⟨g, off + n * 5 + 4, none⟩ = some (.bool dx.sp) := hcell 4 _ rfl
  have hmem := List.mem_of_getElem? hx
  have HMEM := Aside0.mk hmem
  have hN := Aside0.mk hn
  have z0 : (n : Int) < (way.length : Int) := by omega
  have z1 : (0 : Int) ≤ (n : Int) := by omega
  have hlw : (way.length : Int) ≤ 1024 := by omega
  have h5z : w.heap.size + 1 + 1 + 1 < w5.heap.size := by have := (Array.getElem?_eq_some_iff.1 d5.b4).1; omega
  have hlen : (way.eraseIdx n).length = way.length - 1 := by rw [List.length_eraseIdx]; simp [hn]
  have HLEN := Aside0.mk hlen
  have H5Z := Aside0.mk h5z
  clear hcell hel hby hmem h5z hlen hn
  rw [hw5] at p0 p1 p2 p3 p4
  obtain ⟨f', t', n', b, sp⟩ := dx
  dsimp only at p0 p1 p2 p3 p4 hdl hdy hdx HMEM
  cases sp with
  | true =>
    have e0 : rspoil0 (Ref0.abs ⟨nodes, sent, way, boxes, lost⟩) (n : Int) at' m = (Ref0.abs ⟨nodes, sent, way, boxes, lost⟩, none, 94) := by
      unfold rspoil0
      rw [if_neg hgood, Int.toNat_natCast, hdx]
      dsimp only
      rw [if_pos (by rfl)]
    rw [e0]
    clear e0 hgood hdx
    go_enter Try.func24, Try.ntmps24
    go_wp2
    go_region
    all_goals go_wp2
    all_goals (
      refine bodyPost_ret (v := .tuple #[refAgg ⟨nodes, sent, way, boxes, lost⟩ (.slice (some ⟨g, off, none⟩) way.length c) (.slice A' boxes.length c'), zeroDg, .bool false, .int .i64 94]) (by simp [results, Try.results24, go_sem, zeroDg, *]) rfl (HS.out _ ?_ _)
      (repeat (first | (with_reducible assumption) | (with_reducible exact Only.refl _ _) | (with_reducible refine Only.allocs ?_ _) | (with_reducible refine Only.drews ?_) | (with_reducible refine Only.setNew ?_ _ (by dsimp only; omega) _))))
  | false =>
    by_cases hat : 0 ≤ at' ∧ at' < b.length
    · obtain ⟨a, rfl⟩ : ∃ a : Nat, at' = a := ⟨at'.toNat, by omega⟩
      obtain ⟨w6, hw6⟩ : ∃ w6, w6 = w5.alloc (.cells #[.int .i64 f', .int .i64 t', .int .u64 n', .slice Ax b.length cx, .bool false] 54) := ⟨_, rfl⟩
      obtain ⟨w7, hw7⟩ : ∃ w7, w7 = w6.alloc (.cells #[] 5) := ⟨_, rfl⟩
      have hz5 : w5.heap.size = w.heap.size + 1 + 1 + 1 + 1 + 1 := by rw [hw5]; simp
      have hz6 : w6.heap.size = w.heap.size + 1 + 1 + 1 + 1 + 1 + 1 := by rw [hw6, size_alloc1, hz5]
      have o6 : Only w5 w6 [] := by rw [hw6]; exact Only.alloc w5 _ []
      have o7 : Only w6 w7 [] := by rw [hw7]; exact Only.alloc w6 _ []
      have b6 : w6.heap[w.heap.size + 1 + 1 + 1 + 1 + 1]? = some (.cells #[.int .i64 f', .int .i64 t', .int .u64 n', .slice Ax b.length cx, .bool false] 54 (0, 0)) := by rw [← hz5, hw6]; exact heap_alloc_new w5 _
      have b7 : w7.heap[w.heap.size + 1 + 1 + 1 + 1 + 1 + 1]? = some (.cells #[] 5 (0, 0)) := by rw [← hz6, hw7]; exact heap_alloc_new w6 _
      have hbw : BytesAt w (.slice Ax b.length cx) b := (h.way.bytes _ HMEM.out).1.1
      obtain ⟨g9, more, w8, hrun, b8, hg9, hmore, o8⟩ := run_copy_bytes w7 (w.heap.size + 1 + 1 + 1 + 1 + 1 + 1) 28 _ b b7 (hbw.only ((o5.trans o6 (by simp)).trans o7 (by simp))) (by omega)
      have hal : decide ((a : Int) < 0) = false := decide_eq_false (by omega)
      have hal2 : decide (b.length ≤ a) = false := decide_eq_false (by omega)
      have o58 : Only w5 w8 [w.heap.size + 1 + 1 + 1 + 1 + 1 + 1] := ((o6.trans o7 (by simp)).weaken (ks2 := [w.heap.size + 1 + 1 + 1 + 1 + 1 + 1]) (by simp)).trans o8 (fun k hk => .inl hk)
      have dw8 := d5.only o58 (by simp; try omega)
      have HD8 := Aside0.mk dw8
      obtain ⟨x10, x11, x12, x13, x14, x15, x16⟩ := blk7 dw8.b1
      obtain ⟨x00, x01, x02, x03, x04, xf00, xf01, xf02, xf03, xf04⟩ := blk5 dw8.b0
      clear dw8
      have HAT := Aside0.mk hat
      have HZ5 := Aside0.mk hz5
      have HZ6 := Aside0.mk hz6
      have HO := Aside0.mk (And.intro o6 (And.intro o7 o8))
      have HW8 : Aside0 (Only w w8 []) := ⟨o5.trans o58 (by simp; omega)⟩
      have HD58 : Aside0 (w8.heap[w.heap.size + 1 + 1 + 1 + 1 + 1]? = some (.cells #[.int .i64 f', .int .i64 t', .int .u64 n', .slice Ax b.length cx, .bool false] 54 (0, 0))) := ⟨(o8.block _ (by have := o7.size; omega) (by simp)).trans ((o7.block _ (by omega) (by simp)).trans b6)⟩
      have HB := Aside0.mk (And.intro b6 (And.intro b7 b8))
      have HX := Aside0.mk (And.intro hgood hdx)
      have HB8 := Aside0.mk b8
      clear hat hz5 hz6 o6 o7 o8 o58 b6 b7 b8 hgood hdx
      go_enter Try.func24, Try.ntmps24
      go_wp2_with (at_builtin; go_loud (rw [← hw5, ← hw6, ← hw7]; clear hw5 hw6 hw7 ho; refine wpList_append_by rfl _ _ _ _ rfl _ _ rfl rfl _ _ hrun ?_; clear hrun))
      go_loopg [14, 15] 4 (fun gk v14 v15 wr => ∃ (t : Nat) (B : List Int) (mt : Int), t ≤ 4 ∧ gk = 4 - t ∧ v14 = .int .u32 mt ∧ v15 = .int .i64 (3 - (t : Int)) ∧ 0 ≤ mt ∧ mt < 4294967296 ∧ Aside0 (mt = mdiv m t) ∧ Aside0 (Only w8 wr [g9]) ∧ Aside0 (wr.heap[g9]? = some (.cells (B.map (Value.int .u8) ++ more).toArray 5 (0, 0))) ∧ Aside0 (B = spR m a b t))
      case atStart => exact ⟨0, b, m, by omega, rfl, rfl, rfl, HM.out.1, HM.out.2, ⟨rfl⟩, ⟨Only.refl _ _⟩, ⟨HB8.out⟩, ⟨rfl⟩⟩
      case round =>
        obtain ⟨t, B, mt, ht, rfl, rfl, rfl, hm0, hm1, HMV, HO, HB, HL⟩ := hrel
        have HMT := Aside0.mk (And.intro hm0 hm1)
        have hB := HB.out
        have hBl : B.length = b.length := by rw [HL.out, spR_len]
        have hcl : ∀ j x, B[j]? = some x → wr.cell? ⟨g9, j, none⟩ = some (.int .u8 x) := fun j x hj => by
          have := row_cells (pre := []) (xs := B.map (Value.int .u8)) (post := more) (by simpa using hB) j (.int .u8 x) (by simp [hj])
          simpa [Addr.add_lit] using this
        have hfz : ∀ o, wr.frozen? ⟨g9, o, none⟩ = false := fun o => Lib.frozen_of_heap hB o
        have dwr := HD8.out.only HO.out (by have := hg9; simp; omega)
        have HDWR := Aside0.mk dwr
        have hat := HAT.out
        obtain ⟨x10, x11, x12, x13, x14, x15, x16⟩ := blk7 dwr.b1
        have ht' : t = 0 ∨ t = 1 ∨ t = 2 ∨ t = 3 ∨ t = 4 := by omega
        rcases ht' with rfl | rfl | rfl | rfl | rfl
        -- ROUNDS
        · have e : (3 : Int) - ((0 : Nat) : Int) = 3 := rfl
          have hmk : mt % 256 = maskB m 3 := by
              have h1 : mt = m := HMV.out
              have h2 := HM.out
              show mt % 256 = m % 256
              omega
          have HMK := Aside0.mk hmk
          clear hmk
          by_cases hj : a + 3 < b.length
          · have hyl : a + 3 < B.length := by rw [hBl]; omega
            obtain ⟨y, hy⟩ : ∃ y, B[a + 3]? = some y := ⟨_, List.getElem?_eq_getElem hyl⟩
            have hc := hcl _ _ hy
            have hf := hfz (a + 3)
            have b1 : (a : Int) + 3 < (b.length : Int) := by omega
            have b2 : (0 : Int) ≤ (a : Int) + 3 := by omega
            have b3 : ((a : Int) + 3).toNat = a + 3 := by omega
            have b4 : (a : Int) + 3 ≤ 2000 := by omega
            have HY := Lib.hid hy
            have HYL := Lib.hid hyl
            clear hcl hfz hB hy hyl hBl
            rw [e]
            go_wp2
            go_region
            go_wp2
            go_roundg (4 - 1)
            case measure => omega
            case rel =>
              refine ⟨1, spStep m a B 3, _, by omega, rfl, rfl, rfl, by have := HMT.out; omega, by have := HMT.out; omega, ⟨by rw [HMV.out]; rfl⟩, ⟨(HO.out.trans (Only.setCell _ ⟨g9, _, none⟩ _) (by simp)).trans (Only.drew _ [g9]) (by simp)⟩, ⟨?_⟩, ⟨by rw [HL.out]; rfl⟩⟩
              have hs := heap_setCell HB.out (a + 3) (.int .u8 (xorB y (mt % 256)))
              rw [cells_modify B more (a + 3) y (mt % 256) HY] at hs
              refine hs.trans ?_
              rw [HMK.out]
              rfl
          · have b1 : decide ((a : Int) + 3 < (b.length : Int)) = false := decide_eq_false (by omega)
            have b4 : (a : Int) + 3 ≤ 2000 := by omega
            have b2 : (0 : Int) ≤ (a : Int) + 3 := by omega
            have b5 : (b.length : Int) ≤ (a : Int) + 3 := by omega
            have hout : B.length ≤ a + 3 := by rw [hBl]; omega
            have HXO := Lib.hid hout
            clear hcl hfz hB hBl hout
            rw [e]
            go_wp2
            go_roundg (4 - 1)
            case measure => omega
            case rel =>
              refine ⟨1, B, _, by omega, rfl, rfl, rfl, by have := HMT.out; omega, by have := HMT.out; omega, ⟨by rw [HMV.out]; rfl⟩, HO, HB, ⟨?_⟩⟩
              have hso : spStep m a B 3 = B := spStep_out m a B 3 HXO
              rw [← hso, HL.out]
              rfl
        · have e : (3 : Int) - ((1 : Nat) : Int) = 2 := rfl
          have hmk : mt % 256 = maskB m 2 := by
              have h1 : mt = m / 256 := HMV.out
              have h2 := HM.out
              show mt % 256 = m / 256 % 256
              omega
          have HMK := Aside0.mk hmk
          clear hmk
          by_cases hj : a + 2 < b.length
          · have hyl : a + 2 < B.length := by rw [hBl]; omega
            obtain ⟨y, hy⟩ : ∃ y, B[a + 2]? = some y := ⟨_, List.getElem?_eq_getElem hyl⟩
            have hc := hcl _ _ hy
            have hf := hfz (a + 2)
            have b1 : (a : Int) + 2 < (b.length : Int) := by omega
            have b2 : (0 : Int) ≤ (a : Int) + 2 := by omega
            have b3 : ((a : Int) + 2).toNat = a + 2 := by omega
            have b4 : (a : Int) + 2 ≤ 2000 := by omega
            have HY := Lib.hid hy
            have HYL := Lib.hid hyl
            clear hcl hfz hB hy hyl hBl
            rw [e]
            go_wp2
            go_region
            go_wp2
            go_roundg (4 - 2)
            case measure => omega
            case rel =>
              refine ⟨2, spStep m a B 2, _, by omega, rfl, rfl, rfl, by have := HMT.out; omega, by have := HMT.out; omega, ⟨by rw [HMV.out]; rfl⟩, ⟨(HO.out.trans (Only.setCell _ ⟨g9, _, none⟩ _) (by simp)).trans (Only.drew _ [g9]) (by simp)⟩, ⟨?_⟩, ⟨by rw [HL.out]; rfl⟩⟩
              have hs := heap_setCell HB.out (a + 2) (.int .u8 (xorB y (mt % 256)))
              rw [cells_modify B more (a + 2) y (mt % 256) HY] at hs
              refine hs.trans ?_
              rw [HMK.out]
              rfl
          · have b1 : decide ((a : Int) + 2 < (b.length : Int)) = false := decide_eq_false (by omega)
            have b4 : (a : Int) + 2 ≤ 2000 := by omega
            have b2 : (0 : Int) ≤ (a : Int) + 2 := by omega
            have b5 : (b.length : Int) ≤ (a : Int) + 2 := by omega
            have hout : B.length ≤ a + 2 := by rw [hBl]; omega
            have HXO := Lib.hid hout
            clear hcl hfz hB hBl hout
            rw [e]
            go_wp2
            go_roundg (4 - 2)
            case measure => omega
            case rel =>
              refine ⟨2, B, _, by omega, rfl, rfl, rfl, by have := HMT.out; omega, by have := HMT.out; omega, ⟨by rw [HMV.out]; rfl⟩, HO, HB, ⟨?_⟩⟩
              have hso : spStep m a B 2 = B := spStep_out m a B 2 HXO
              rw [← hso, HL.out]
              rfl
        · have e : (3 : Int) - ((2 : Nat) : Int) = 1 := rfl
          have hmk : mt % 256 = maskB m 1 := by
              have h1 : mt = m / 256 / 256 := HMV.out
              have h2 := HM.out
              show mt % 256 = m / 65536 % 256
              omega
          have HMK := Aside0.mk hmk
          clear hmk
          by_cases hj : a + 1 < b.length
          · have hyl : a + 1 < B.length := by rw [hBl]; omega
            obtain ⟨y, hy⟩ : ∃ y, B[a + 1]? = some y := ⟨_, List.getElem?_eq_getElem hyl⟩
            have hc := hcl _ _ hy
            have hf := hfz (a + 1)
            have b1 : (a : Int) + 1 < (b.length : Int) := by omega
            have b2 : (0 : Int) ≤ (a : Int) + 1 := by omega
            have b3 : ((a : Int) + 1).toNat = a + 1 := by omega
            have b4 : (a : Int) + 1 ≤ 2000 := by omega
            have HY := Lib.hid hy
            have HYL := Lib.hid hyl
            clear hcl hfz hB hy hyl hBl
            rw [e]
            go_wp2
            go_region
            go_wp2
            go_roundg (4 - 3)
            case measure => omega
            case rel =>
              refine ⟨3, spStep m a B 1, _, by omega, rfl, rfl, rfl, by have := HMT.out; omega, by have := HMT.out; omega, ⟨by rw [HMV.out]; rfl⟩, ⟨(HO.out.trans (Only.setCell _ ⟨g9, _, none⟩ _) (by simp)).trans (Only.drew _ [g9]) (by simp)⟩, ⟨?_⟩, ⟨by rw [HL.out]; rfl⟩⟩
              have hs := heap_setCell HB.out (a + 1) (.int .u8 (xorB y (mt % 256)))
              rw [cells_modify B more (a + 1) y (mt % 256) HY] at hs
              refine hs.trans ?_
              rw [HMK.out]
              rfl
          · have b1 : decide ((a : Int) + 1 < (b.length : Int)) = false := decide_eq_false (by omega)
            have b4 : (a : Int) + 1 ≤ 2000 := by omega
            have b2 : (0 : Int) ≤ (a : Int) + 1 := by omega
            have b5 : (b.length : Int) ≤ (a : Int) + 1 := by omega
            have hout : B.length ≤ a + 1 := by rw [hBl]; omega
            have HXO := Lib.hid hout
            clear hcl hfz hB hBl hout
            rw [e]
            go_wp2
            go_roundg (4 - 3)
            case measure => omega
            case rel =>
              refine ⟨3, B, _, by omega, rfl, rfl, rfl, by have := HMT.out; omega, by have := HMT.out; omega, ⟨by rw [HMV.out]; rfl⟩, HO, HB, ⟨?_⟩⟩
              have hso : spStep m a B 1 = B := spStep_out m a B 1 HXO
              rw [← hso, HL.out]
              rfl
        · have e : (3 : Int) - ((3 : Nat) : Int) = 0 := rfl
          have hmk : mt % 256 = maskB m 0 := by
              have h1 : mt = m / 256 / 256 / 256 := HMV.out
              have h2 := HM.out
              show mt % 256 = m / 16777216
              omega
          have HMK := Aside0.mk hmk
          clear hmk
          have hyl : a < B.length := by rw [hBl]; omega
          obtain ⟨y, hy⟩ : ∃ y, B[a]? = some y := ⟨_, List.getElem?_eq_getElem hyl⟩
          have hc := hcl _ _ hy
          have hf := hfz (a)
          have b1 : (a : Int) < (b.length : Int) := by omega
          have b2 : (0 : Int) ≤ (a : Int) := by omega
          have b3 : ((a : Int)).toNat = a := by omega
          have b4 : (a : Int) ≤ 2000 := by omega
          have HY := Lib.hid hy
          have HYL := Lib.hid hyl
          clear hcl hfz hB hy hyl hBl
          rw [e]
          go_wp2
          go_region
          go_wp2
          go_roundg (4 - 4)
          case measure => omega
          case rel =>
            refine ⟨4, spStep m a B 0, _, by omega, rfl, rfl, rfl, by have := HMT.out; omega, by have := HMT.out; omega, ⟨by rw [HMV.out]; rfl⟩, ⟨(HO.out.trans (Only.setCell _ ⟨g9, _, none⟩ _) (by simp)).trans (Only.drew _ [g9]) (by simp)⟩, ⟨?_⟩, ⟨by rw [HL.out]; rfl⟩⟩
            have hs := heap_setCell HB.out (a) (.int .u8 (xorB y (mt % 256)))
            rw [cells_modify B more (a) y (mt % 256) HY] at hs
            refine hs.trans ?_
            rw [HMK.out]
            rfl
        -- END OF ROUNDS
        · have e : (3 : Int) - ((4 : Nat) : Int) = -1 := rfl
          have hz8 : w.heap.size + 1 + 1 + 1 + 1 < wr.heap.size := (Array.getElem?_eq_some_iff.1 dwr.b4).1
          have hd5 : wr.heap[w.heap.size + 1 + 1 + 1 + 1 + 1]? = some (.cells #[.int .i64 f', .int .i64 t', .int .u64 n', .slice Ax b.length cx, .bool false] 54 (0, 0)) := (HO.out.block _ (Array.getElem?_eq_some_iff.1 HD58.out).1 (by have := hg9; simp; omega)).trans HD58.out
          have hz9 : w.heap.size + 1 + 1 + 1 + 1 + 1 < wr.heap.size := (Array.getElem?_eq_some_iff.1 hd5).1
          have ow : Only w wr [] := HW8.out.trans HO.out (by have := hg9; simp; omega)
          obtain ⟨we, hwe⟩ : ∃ we, we = wr.alloc (.cells #[] 54) := ⟨_, rfl⟩
          have oe : Only wr we [] := by rw [hwe]; exact Only.alloc wr _ []
          have be : we.heap[wr.heap.size]? = some (.cells #[] 54 (0, 0)) := by rw [hwe]; exact heap_alloc_new wr _
          obtain ⟨AA, cA, wA, hrA, hoA, oA⟩ := rr_append (P := P) (own_empty be (Nat.le_refl _)) (h.way.only (ow.trans oe (by simp))) oe.size (by simp; omega) 41
          simp only [List.length_nil, Nat.zero_add, List.nil_append] at hrA hoA
          rcases hoA.2 with ⟨_, hz⟩ | ⟨gA, capA, cur, hvA, hA1, hA2, hA3, hA4, hA5, hA6⟩
          · have := hN.out; omega
          simp only [Value.slice.injEq] at hvA
          obtain ⟨rfl, -, rfl⟩ := hvA
          have dwA : DoAt wA w.heap.size _ _ := (dwr.quiet oe).only oA (by simp [bl, Value.ownBlock]; omega)
          have hdA : wA.heap[w.heap.size + 1 + 1 + 1 + 1 + 1]? = _ := (oA.block _ (by have := oe.size; omega) (by simp [bl, Value.ownBlock]; omega)).trans ((oe.block _ hz9 (by simp)).trans hd5)
          obtain ⟨y00, y01, y02, y03, y04, yf00, yf01, yf02, yf03, yf04⟩ := blk5 dwA.b0
          obtain ⟨y10, y11, y12, y13, y14, y15, y16⟩ := blk7 dwA.b1
          obtain ⟨y20, y21, y22, y23, y24, yf20, yf21, yf22, yf23, yf24⟩ := blk5 dwA.b2
          obtain ⟨y30, y31, y32, y33, y34, yf30, yf31, yf32, yf33, yf34⟩ := blk5 dwA.b3
          obtain ⟨y40, y41, y42, y43, y44, yf40, yf41, yf42, yf43, yf44⟩ := blk5 dwA.b4
          obtain ⟨y50, y51, y52, y53, y54, yf50, yf51, yf52, yf53, yf54⟩ := blk5 hdA
          obtain ⟨x00, x01, x02, x03, x04, xf00, xf01, xf02, xf03, xf04⟩ := blk5 dwr.b0
          have hz80 : w.heap.size < wr.heap.size := by omega
          have hz81 : w.heap.size + 1 < wr.heap.size := by omega
          have hwA0 : w.heap.size < wA.heap.size := (Array.getElem?_eq_some_iff.1 dwA.b0).1
          have hcu : ∀ j u, (cellsR (⟨f', t', n', b, false⟩, .slice Ax b.length cx))[j]? = some u → wA.cell? ⟨gA, n * 5 + j, none⟩ = some u := fun j u hj => by
            have hf := flatR_at way n _ hx j u hj
            have hlt := (List.getElem?_eq_some_iff.1 hf).1
            rw [flatR_len] at hlt
            rw [← hA6, List.getElem?_take, if_pos hlt] at hf
            rw [Lib.cell_of_heap hA2]
            simpa using hf
          have q0 : wA.cell? ⟨gA, n * 5, none⟩ = some (.int .i64 f') := hcu 0 _ rfl
          have q1 : wA.cell? ⟨gA, n * 5 + 1, none⟩ = some (.int .i64 t') := hcu 1 _ rfl
          have q2 : wA.cell? ⟨gA, n * 5 + 2, none⟩ = some (.int .u64 n') := hcu 2 _ rfl
          have q3 : wA.cell? ⟨gA, n * 5 + 3, none⟩ = some (.slice Ax b.length cx) := hcu 3 _ rfl
          have q4 : wA.cell? ⟨gA, n * 5 + 4, none⟩ = some (.bool false) := hcu 4 _ rfl
          have qf0 : wA.frozen? ⟨gA, n * 5, none⟩ = false := Lib.frozen_of_heap hA2 _
          have qf1 : wA.frozen? ⟨gA, n * 5 + 1, none⟩ = false := Lib.frozen_of_heap hA2 _
          have qf2 : wA.frozen? ⟨gA, n * 5 + 2, none⟩ = false := Lib.frozen_of_heap hA2 _
          have qf3 : wA.frozen? ⟨gA, n * 5 + 3, none⟩ = false := Lib.frozen_of_heap hA2 _
          have qf4 : wA.frozen? ⟨gA, n * 5 + 4, none⟩ = false := Lib.frozen_of_heap hA2 _
          have hne0 : ¬ gA = w.heap.size := by omega
          have hne1 : ¬ w.heap.size = gA := by omega
          have hne2 : ¬ gA = w.heap.size + 1 := by omega
          have hne3 : ¬ w.heap.size + 1 = gA := by omega
          have hne4 : ¬ gA = w.heap.size + 1 + 1 := by omega
          have hne5 : ¬ w.heap.size + 1 + 1 = gA := by omega
          have hne6 : ¬ gA = w.heap.size + 1 + 1 + 1 := by omega
          have hne7 : ¬ w.heap.size + 1 + 1 + 1 = gA := by omega
          have hne8 : ¬ gA = w.heap.size + 1 + 1 + 1 + 1 := by omega
          have hne9 : ¬ w.heap.size + 1 + 1 + 1 + 1 = gA := by omega
          have hnea : ¬ gA = w.heap.size + 1 + 1 + 1 + 1 + 1 := by omega
          have hneb : ¬ w.heap.size + 1 + 1 + 1 + 1 + 1 = gA := by omega
          have HZ9 := Aside0.mk hz9
          have HHA := Aside0.mk (And.intro hA2 (And.intro hA3 (And.intro hA4 (And.intro hA5 hA6))))
          have HHD := Aside0.mk (And.intro oA (And.intro oe ow))
          have HHX := Aside0.mk hx
          have HDA := Aside0.mk dwA
          clear hA2 hA3 hA4 hA5 hA6 oA oe ow hx hcu be hoA hd5 dwA hdA hB hBl hcl hfz
          rw [e]
          go_wp2_with (at_builtin; go_loud (rw [← hwe]; clear hwe; refine wpList_append_by rfl _ _ _ _ rfl _ _ rfl rfl _ _ hrA ?_; clear hrA))
          all_goals go_region
          all_goals go_wp2
          all_goals (
            obtain ⟨hA2, hA3, hA4, hA5, hA6⟩ := HHA.out
            obtain ⟨oA, oe, ow⟩ := HHD.out
            have hBe : B = spoilB m a b := HL.out.trans (spR_4 m a b)
            have hsl : (spoilB m a b).length = b.length := spFold_len m a _ _
            have hg9r : g9 < wr.heap.size := (Array.getElem?_eq_some_iff.1 HB.out).1
            have hlw : wr.heap.size ≤ wA.heap.size := Nat.le_trans oe.size oA.size
            have hgAl : gA < wA.heap.size := (Array.getElem?_eq_some_iff.1 hA2).1
            have ob : Only w wA [] := (ow.trans oe (by simp)).trans oA (by simp [bl, Value.ownBlock]; omega)
            have hbA : wA.heap[g9]? = some (.cells (B.map (Value.int .u8) ++ more).toArray 5 (0, 0)) := (oA.block _ (by have := oe.size; omega) (by simp [bl, Value.ownBlock]; omega)).trans ((oe.block _ hg9r (by simp)).trans HB.out)
            obtain ⟨wB, hwB⟩ : ∃ wB, wB = (wA.setCell ⟨w.heap.size + 1 + 1 + 1 + 1 + 1, 3, none⟩ (.slice (some ⟨g9, 0, none⟩) b.length (b.length + more.length))).setCell ⟨w.heap.size + 1 + 1 + 1 + 1 + 1, 4, none⟩ (.bool true) := ⟨_, rfl⟩
            have oB : Only wA wB [w.heap.size + 1 + 1 + 1 + 1 + 1] := by rw [hwB]; exact ((Only.refl wA _).setCells _ (by simp) _).setCells _ (by simp) _
            have hB2 : wB.heap[gA]? = some (.cells cur 54 (0, 0)) := (oB.block _ hgAl (by simp; omega)).trans hA2
            obtain ⟨wC, hwC⟩ : ∃ wC, wC = ((((wB.setCell ⟨gA, n * 5, none⟩ (.int .i64 f')).setCell ⟨gA, n * 5 + 1, none⟩ (.int .i64 t')).setCell ⟨gA, n * 5 + 2, none⟩ (.int .u64 n')).setCell ⟨gA, n * 5 + 3, none⟩ (.slice (some ⟨g9, 0, none⟩) b.length (b.length + more.length))).setCell ⟨gA, n * 5 + 4, none⟩ (.bool true) := ⟨_, rfl⟩
            have oC : Only wB wC [gA] := by rw [hwC]; exact (((((Only.refl wB _).setCells _ (by simp) _).setCells _ (by simp) _).setCells _ (by simp) _).setCells _ (by simp) _).setCells _ (by simp) _
            have hC2 := heap_setCell (heap_setCell (heap_setCell (heap_setCell (heap_setCell hB2 (n * 5) (.int .i64 f')) (n * 5 + 1) (.int .i64 t')) (n * 5 + 2) (.int .u64 n')) (n * 5 + 3) (.slice (some ⟨g9, 0, none⟩) b.length (b.length + more.length))) (n * 5 + 4) (.bool true)
            rw [← hwC] at hC2
            have hbC : wC.heap[g9]? = some (.cells (B.map (Value.int .u8) ++ more).toArray 5 (0, 0)) := (oC.block _ (by have := oB.size; omega) (by simp; omega)).trans ((oB.block _ (by omega) (by simp; omega)).trans hbA)
            have obC : Only w wC [] := (ob.trans oB (by simp; omega)).trans oC (by simp; omega)
            have hbi : BytesIn wC (fun k => (P k ∧ k < w.heap.size) ∨ w.heap.size + 1 + 1 + 1 + 1 ≤ k) (.slice (some ⟨g9, 0, none⟩) b.length (b.length + more.length)) (spoilB m a b) := by
              refine ⟨⟨_, _, by rw [hsl], (fun h => by cases h), ?_⟩, fun a n c hv hb => ?_⟩
              · rintro ad had j x hxj
                cases had
                have := row_cells (pre := []) (xs := B.map (Value.int .u8)) (post := more) (by simpa using hbC) j (.int .u8 x) (by rw [hBe]; simp [hxj])
                simpa using this
              · cases hv
                exact .inr (by show _ ≤ g9; omega)
            have hrow : RRow wC (fun k => (P k ∧ k < w.heap.size) ∨ w.heap.size + 1 + 1 + 1 + 1 ≤ k) (.slice (some ⟨gA, 0, none⟩) way.length cA) (way.set n (⟨f', t', n', spoilB m a b, true⟩, .slice (some ⟨g9, 0, none⟩) b.length (b.length + more.length))) := by
              refine rr_set5 (x := (⟨f', t', n', spoilB m a b, true⟩, .slice (some ⟨g9, 0, none⟩) b.length (b.length + more.length))) rfl hN.out ⟨hA3, hA4⟩ (by omega) hA6 hC2 (.inr (by omega)) (fun y hy => ?_)
              rcases List.mem_or_eq_of_mem_set hy with hy | rfl
              · exact ((HH.out.old.way.only obC).to (Q := fun k => (P k ∧ k < w.heap.size) ∨ w.heap.size + 1 + 1 + 1 + 1 ≤ k) (fun k _ hk => .inl hk)).bytes y hy
              · exact ⟨hbi, by rw [hsl]; exact hdl, spFold_byte m a _ _ hdy⟩
            have key : ∀ W', Only wC W' [w.heap.size, w.heap.size + 1 + 1, w.heap.size + 1 + 1 + 1] → RDid w P (rspoil0 (Ref0.abs ⟨nodes, sent, way, boxes, lost⟩) (n : Int) (a : Int) m) (.returned (.tuple #[refAgg ⟨nodes, sent, way.set n (⟨f', t', n', spoilB m a b, true⟩, .slice (some ⟨g9, 0, none⟩) b.length (b.length + more.length)), boxes, lost⟩ (.slice (some ⟨gA, 0, none⟩) way.length cA) (.slice A' boxes.length c'), zeroDg, .bool false, .int .i64 0])) W' := fun W' oF => by
              have e1 : rspoil0 (Ref0.abs ⟨nodes, sent, way, boxes, lost⟩) (n : Int) (a : Int) m = (⟨nodes, sent, (way.map (·.1)).set n ⟨f', t', n', spoilB m a b, true⟩, boxes.map (·.1), lost⟩, none, 0) := by
                unfold rspoil0
                rw [if_neg HX.out.1, Int.toNat_natCast, HX.out.2]
                dsimp only
                rw [if_neg (by simp), if_neg (by omega)]
                rfl
              rw [e1]
              refine ⟨⟨nodes, sent, way.set n (⟨f', t', n', spoilB m a b, true⟩, .slice (some ⟨g9, 0, none⟩) b.length (b.length + more.length)), boxes, lost⟩, some ⟨gA, 0, none⟩, cA, A', c', zeroDg, by dsimp only; rw [List.length_set]; rfl, ⟨?_, ?_⟩, ?_, obC.doEnd3 oF, rfl⟩
              · dsimp only
                rw [List.length_set]
                exact hrow.doEnd3 (by omega) oF
              · exact ((HH.out.old.boxes.only obC).to (Q := fun k => (P k ∧ k < w.heap.size) ∨ w.heap.size + 1 + 1 + 1 + 1 ≤ k) (fun k _ hk => .inl hk)).doEnd3 (by omega) oF
              · simp [Ref0.abs, List.map_set]
            refine bodyPost_ret (v := .tuple #[refAgg ⟨nodes, sent, way.set n (⟨f', t', n', spoilB m a b, true⟩, .slice (some ⟨g9, 0, none⟩) b.length (b.length + more.length)), boxes, lost⟩ (.slice (some ⟨gA, 0, none⟩) way.length cA) (.slice A' boxes.length c'), zeroDg, .bool false, .int .i64 0]) (by simp [results, Try.results24, go_sem, zeroDg, y00, y01, y02, y03, y04, y20, y21, y22, y23, y24, y30, y31, y32, y33, y34]) rfl ?_
            rw [← hwB, ← hwC]
            refine key _ ?_
            (repeat (first | (with_reducible exact Only.refl _ _) | (with_reducible refine Only.setCells ?_ _ (by simp) _) | (with_reducible refine Only.drewk ?_))))
    · by_cases hneg : at' < 0
      · have e0 : rspoil0 (Ref0.abs ⟨nodes, sent, way, boxes, lost⟩) (n : Int) at' m = (Ref0.abs ⟨nodes, sent, way, boxes, lost⟩, none, 93) := by
          unfold rspoil0
          rw [if_neg hgood, Int.toNat_natCast, hdx]
          dsimp only
          rw [if_neg (by simp), if_pos (.inl hneg)]
        rw [e0]
        clear e0 hgood hdx
        go_enter Try.func24, Try.ntmps24
        go_wp2
        go_region
        all_goals go_wp2
        all_goals (
          refine bodyPost_ret (v := .tuple #[refAgg ⟨nodes, sent, way, boxes, lost⟩ (.slice (some ⟨g, off, none⟩) way.length c) (.slice A' boxes.length c'), zeroDg, .bool false, .int .i64 93]) (by simp [results, Try.results24, go_sem, zeroDg, *]) rfl (HS.out _ ?_ _)
          (repeat (first | (with_reducible assumption) | (with_reducible exact Only.refl _ _) | (with_reducible refine Only.allocs ?_ _) | (with_reducible refine Only.drews ?_) | (with_reducible refine Only.setNew ?_ _ (by dsimp only; omega) _))))
      · have hbig : (b.length : Int) ≤ at' := by omega
        have e0 : rspoil0 (Ref0.abs ⟨nodes, sent, way, boxes, lost⟩) (n : Int) at' m = (Ref0.abs ⟨nodes, sent, way, boxes, lost⟩, none, 93) := by
          unfold rspoil0
          rw [if_neg hgood, Int.toNat_natCast, hdx]
          dsimp only
          rw [if_neg (by simp), if_pos (.inr hbig)]
        rw [e0]
        clear e0 hgood hdx
        go_enter Try.func24, Try.ntmps24
        go_wp2
        go_region
        all_goals go_wp2
        all_goals (
          refine bodyPost_ret (v := .tuple #[refAgg ⟨nodes, sent, way, boxes, lost⟩ (.slice (some ⟨g, off, none⟩) way.length c) (.slice A' boxes.length c'), zeroDg, .bool false, .int .i64 93]) (by simp [results, Try.results24, go_sem, zeroDg, *]) rfl (HS.out _ ?_ _)
          (repeat (first | (with_reducible assumption) | (with_reducible exact Only.refl _ _) | (with_reducible refine Only.allocs ?_ _) | (with_reducible refine Only.drews ?_) | (with_reducible refine Only.setNew ?_ _ (by dsimp only; omega) _))))
end Go.Proofs.Ytehgneiiajpgpaa
