/- dgram: the document's node, Box, Same, All. -/
import Derived.Test.YtehgneiiajpgpaaDgRa
namespace Go.Proofs.Ytehgneiiajpgpaa
open Go.RowKit
set_option linter.all false
set_option maxHeartbeats 2000000
set_option maxRecDepth 100000

theorem rnode_c (w : World) (M : Ref0) (vw vb : Value) (k : Int) : Calls Try.prog 42 #[refAgg M vw vb, .int .i64 k] w fun e w' => e = .returned (.bool (decide (1 ≤ k ∧ k ≤ M.nodes))) ∧ Only w w' [] := by
  obtain ⟨nodes, sent, way, boxes, lost⟩ := M
  by_cases h1 : 0 < k
  · by_cases h2 : k ≤ nodes
    · have e : decide (1 ≤ k ∧ k ≤ nodes) = true := decide_eq_true (by omega)
      dsimp only
      rw [e]
      go_enter Try.func42, Try.ntmps42
      go_wp2
      go_ret
      exact ⟨rfl, Only.alloc w _ []⟩
    · have e : decide (1 ≤ k ∧ k ≤ nodes) = false := decide_eq_false (by omega)
      dsimp only
      rw [e]
      go_enter Try.func42, Try.ntmps42
      go_wp2
      go_ret
      exact ⟨rfl, Only.alloc w _ []⟩
  · have e : decide (1 ≤ k ∧ k ≤ nodes) = false := decide_eq_false (by omega)
    dsimp only
    rw [e]
    go_enter Try.func42, Try.ntmps42
    go_wp2
    go_ret
    exact ⟨rfl, Only.alloc w _ []⟩
def cntT (k : Int) (l : List (D0 × Value)) : Nat := (l.filter fun x => x.1.t == k).length
theorem cntT_snoc (k : Int) (l : List (D0 × Value)) (x : D0 × Value) : cntT k (l ++ [x]) = cntT k l + if x.1.t = k then 1 else 0 := by
  unfold cntT
  rw [List.filter_append, List.length_append]
  by_cases h : x.1.t = k
  · simp [h]
  · simp [h]
theorem cntT_le (k : Int) (l : List (D0 × Value)) : cntT k l ≤ l.length := List.length_filter_le _ _
theorem rbox_c (w : World) (P : Nat → Prop) (M : Ref0) (vw vb : Value) (k : Int) (h : RRow w P vb M.boxes) (hl : M.boxes.length ≤ 100000) : Calls Try.prog 27 #[refAgg M vw vb, .int .i64 k] w fun e w' => e = .returned (.int .i64 (cntT k M.boxes)) ∧ Only w w' [] := by
  obtain ⟨nodes, sent, way, boxes, lost⟩ := M
  dsimp only at h hl ⊢
  obtain ⟨w1, hw1⟩ : ∃ w1, w1 = w.alloc (.cells #[.int .i64 nodes, .int .u64 sent, vw, vb, .int .i64 lost] 59) := ⟨_, rfl⟩
  have o1 : Only w w1 [] := by rw [hw1]; exact Only.alloc w _ []
  have b1 : w1.heap[w.heap.size]? = some (.cells #[.int .i64 nodes, .int .u64 sent, vw, vb, .int .i64 lost] 59 (0, 0)) := by rw [hw1]; exact heap_alloc_new w _
  obtain ⟨⟨A, c, rfl, hc, hel⟩, _⟩ := h.only o1
  obtain ⟨x0, x1, x2, x3, x4, _⟩ := blk5 b1
  go_enter Try.func27, Try.ntmps27
  go_wp2
  rw [← hw1]
  clear hw1
  go_loopg [5, 6] boxes.length (fun gk v5 v6 wr => ∃ d : Nat, d ≤ boxes.length ∧ gk = boxes.length - d ∧ v6 = .int .i64 (d : Int) ∧ v5 = .int .i64 (cntT k (boxes.take d) : Nat) ∧ wr = w1)
  case atStart => exact ⟨0, Nat.zero_le _, rfl, rfl, rfl, rfl⟩
  case round =>
    obtain ⟨d, hd, rfl, rfl, rfl, rfl⟩ := hrel
    obtain ⟨n, hn⟩ : ∃ n, cntT k (boxes.take d) = n := ⟨_, rfl⟩
    have hn1 : (n : Int) ≤ 100000 := by
      have := cntT_le k (boxes.take d)
      rw [List.length_take] at this
      omega
    rw [hn]
    by_cases hlt : d < boxes.length
    · obtain ⟨x, hx⟩ : ∃ x, boxes[d]? = some x := ⟨_, List.getElem?_eq_getElem hlt⟩
      obtain ⟨g, off, rfl, _, hcell⟩ := hel d x hx
      have q1 : wr.cell? ⟨g, off + d * 5 + 1, none⟩ = some (.int .i64 x.1.t) := hcell 1 _ rfl
      have z0 : (d : Int) < (boxes.length : Int) := by omega
      have z1 : (0 : Int) ≤ (d : Int) := by omega
      have z2 : (boxes.length : Int) ≤ 100000 := by omega
      have hts : cntT k (boxes.take (d + 1)) = n + if x.1.t = k then 1 else 0 := by
        rw [List.take_succ, hx, Option.toList_some, cntT_snoc, hn]
      have HT := Aside0.mk hts
      have HLT := Aside0.mk hlt
      clear hcell hn hts hlt hd
      by_cases hk : x.1.t = k
      · have hk1 : (x.1.t == k) = true := by simpa using hk
        go_wp2
        go_roundg (boxes.length - (d + 1))
        case measure => have := HLT.out; omega
        case rel => exact ⟨d + 1, HLT.out, rfl, by simp, by rw [HT.out, if_pos hk]; simp, rfl⟩
      · have hk1 : (x.1.t == k) = false := by simpa using hk
        go_wp2
        go_roundg (boxes.length - (d + 1))
        case measure => have := HLT.out; omega
        case rel => exact ⟨d + 1, HLT.out, rfl, by simp, by rw [HT.out, if_neg hk]; simp, rfl⟩
    · have hdd : d = boxes.length := by omega
      subst hdd
      rw [List.take_length] at hn
      clear hlt hd
      go_wp2
      go_ret
      exact ⟨by rw [hn]; rfl, o1⟩
abbrev dgAgg (d : D0) (v : Value) : Value := .agg #[.int .i64 d.f, .int .i64 d.t, .int .u64 d.n, v, .bool d.sp]
theorem same_c (w : World) (d : D0) (v1 v2 : Value) (h1 : BytesAt w v1 d.b) (h2 : BytesAt w v2 d.b) : Calls Try.prog 25 #[dgAgg d v1, dgAgg d v2] w fun e w' => e = .returned (.bool true) ∧ Only w w' [] := by
  obtain ⟨f, t, n, b, sp⟩ := d
  dsimp only at h1 h2 ⊢
  obtain ⟨w2, hw2⟩ : ∃ w2, w2 = (w.alloc (.cells #[.int .i64 f, .int .i64 t, .int .u64 n, v1, .bool sp] 54)).alloc (.cells #[.int .i64 f, .int .i64 t, .int .u64 n, v2, .bool sp] 54) := ⟨_, rfl⟩
  have o2 : Only w w2 [] := by rw [hw2]; exact (Only.alloc w _ []).trans (Only.alloc _ _ []) (by simp)
  have c1 := conv_bytes (h1.only o2)
  have c2 := conv_bytes (h2.only o2)
  rw [hw2] at c1 c2
  have HO := Aside0.mk o2
  rw [hw2] at HO
  clear o2 hw2
  go_enter Try.func25, Try.ntmps25
  go_wp2
  go_ret
  exact ⟨rfl, HO.out⟩
theorem all_c (w : World) (P Q : Nat → Prop) (va vb : Value) (la lb : List (D0 × Value)) (ha : RRow w P va la) (hb : RRow w Q vb lb) (he : la.map (·.1) = lb.map (·.1)) (hl : la.length ≤ 100000) :
    Calls Try.prog 26 #[va, vb] w fun e w' => e = .returned (.bool true) ∧ Only w w' [] := by
  obtain ⟨⟨A, c, rfl, _⟩, _⟩ := id ha
  obtain ⟨⟨A', c', rfl, _⟩, _⟩ := id hb
  have hll : la.length = lb.length := by have := congrArg List.length he; simpa using this
  rw [← hll]
  rw [← hll] at hb
  have HA := Aside0.mk ha
  have HB := Aside0.mk hb
  clear ha hb
  go_enter Try.func26, Try.ntmps26
  go_wp2
  go_loopg [5] la.length (fun gk v5 wr => ∃ d : Nat, d ≤ la.length ∧ gk = la.length - d ∧ v5 = .int .i64 (d : Int) ∧ Aside0 (Only w wr []))
  case atStart => exact ⟨0, Nat.zero_le _, rfl, rfl, ⟨Only.refl _ _⟩⟩
  case round =>
    obtain ⟨d, hd, rfl, rfl, HO⟩ := hrel
    by_cases hlt : d < la.length
    · obtain ⟨x, hx⟩ : ∃ x, la[d]? = some x := ⟨_, List.getElem?_eq_getElem hlt⟩
      obtain ⟨y, hy⟩ : ∃ y, lb[d]? = some y := ⟨_, List.getElem?_eq_getElem (by omega)⟩
      have hxy : x.1 = y.1 := by
        have h1 : (la.map (·.1))[d]? = some x.1 := by simp [hx]
        have h2 : (lb.map (·.1))[d]? = some y.1 := by simp [hy]
        rw [he, h2] at h1
        exact (Option.some.inj h1).symm
      obtain ⟨⟨A1, c1, hv1, _, hel1⟩, hb1⟩ := HA.out.only HO.out
      obtain ⟨⟨A2, c2, hv2, _, hel2⟩, hb2⟩ := HB.out.only HO.out
      obtain ⟨g, off, ha1, _, hc1⟩ := hel1 d x hx
      obtain ⟨g', off', ha2, _, hc2⟩ := hel2 d y hy
      simp only [Value.slice.injEq] at hv1 hv2
      obtain ⟨rfl, _, rfl⟩ := hv1
      obtain ⟨rfl, _, rfl⟩ := hv2
      subst ha1 ha2
      obtain ⟨dx, bx⟩ := x
      obtain ⟨dy, bY⟩ := y
      dsimp only at hxy
      subst hxy
      have p0 : wr.cell? ⟨g, off + d * 5, none⟩ = some (.int .i64 dx.f) := hc1 0 _ rfl
      have p1 : wr.cell? ⟨g, off + d * 5 + 1, none⟩ = some (.int .i64 dx.t) := hc1 1 _ rfl
      have p2 : wr.cell? ⟨g, off + d * 5 + 2, none⟩ = some (.int .u64 dx.n) := hc1 2 _ rfl
      have p3 : wr.cell? ⟨g, off + d * 5 + 3, none⟩ = some bx := hc1 3 _ rfl
      have p4 : wr.cell? ⟨g, off + d * 5 + 4, none⟩ = some (.bool dx.sp) := hc1 4 _ rfl
      have q0 : wr.cell? ⟨g', off' + d * 5, none⟩ = some (.int .i64 dx.f) := hc2 0 _ rfl
      have q1 : wr.cell? ⟨g', off' + d * 5 + 1, none⟩ = some (.int .i64 dx.t) := hc2 1 _ rfl
      have q2 : wr.cell? ⟨g', off' + d * 5 + 2, none⟩ = some (.int .u64 dx.n) := hc2 2 _ rfl
      have q3 : wr.cell? ⟨g', off' + d * 5 + 3, none⟩ = some bY := hc2 3 _ rfl
      have q4 : wr.cell? ⟨g', off' + d * 5 + 4, none⟩ = some (.bool dx.sp) := hc2 4 _ rfl
      have hs := same_c wr.drew dx bx bY ((hb1 _ (List.mem_of_getElem? hx)).1.1.only (Only.drew wr [])) ((hb2 _ (List.mem_of_getElem? hy)).1.1.only (Only.drew wr []))
      have HS := Aside0.mk hs
      have z0 : (d : Int) < (la.length : Int) := by omega
      have z1 : (0 : Int) ≤ (d : Int) := by omega
      have z2 : (la.length : Int) ≤ 100000 := by omega
      have HLT := Aside0.mk hlt
      clear hs hc1 hc2 hel1 hel2 hb1 hb2 hx hy hlt hd he
      go_wp2
      go_region_with (first | (go_at_call 25; refine HS.out.mono ?_; rintro e w4 ⟨rfl, o4⟩))
      all_goals go_wp2
      all_goals (
        go_roundg (la.length - (d + 1))
        case measure => have := HLT.out; omega
        case rel => exact ⟨d + 1, HLT.out, rfl, by simp, ⟨(HO.out.trans (Only.drew wr []) (by simp)).trans o4 (by simp)⟩⟩)
    · have hdd : d = la.length := by omega
      subst hdd
      clear hlt hd
      go_wp2
      go_ret
      exact ⟨rfl, HO.out⟩
end Go.Proofs.Ytehgneiiajpgpaa
