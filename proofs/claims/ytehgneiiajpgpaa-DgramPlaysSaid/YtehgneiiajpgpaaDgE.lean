/- dgram: node, has, put. -/
import Derived.Test.YtehgneiiajpgpaaDgD
import Derived.Deep.RegionLaw
namespace Go.Proofs.Ytehgneiiajpgpaa
open Go.RowKit Go.Maps
set_option linter.all false

set_option maxHeartbeats 1000000 in
set_option maxRecDepth 100000 in
theorem node_c (w : World) (p : Nat) (k nodes : Int) (c0 : w.cell? ⟨p, 0, none⟩ = some (.int .i64 nodes)) :
    Calls Try.prog 34 #[.pointer (some ⟨p, 0, none⟩), .int .i64 k] w fun e w' => e = .returned (.bool (decide (1 ≤ k ∧ k ≤ nodes))) ∧ w' = w := by
  by_cases h1 : 1 ≤ k
  · by_cases h2 : k ≤ nodes
    · have e : decide (1 ≤ k ∧ k ≤ nodes) = true := by simp [h1, h2]
      rw [e]
      go_enter Try.func34, Try.ntmps34
      go_wp2
      go_ret
      exact ⟨rfl, rfl⟩
    · have e : decide (1 ≤ k ∧ k ≤ nodes) = false := by simp [h2]
      rw [e]
      go_enter Try.func34, Try.ntmps34
      go_wp2
      go_ret
      exact ⟨rfl, rfl⟩
  · have e : decide (1 ≤ k ∧ k ≤ nodes) = false := by simp [h1]
    rw [e]
    go_enter Try.func34, Try.ntmps34
    go_wp2
    go_ret
    exact ⟨rfl, rfl⟩
set_option maxHeartbeats 1000000 in
set_option maxRecDepth 100000 in
theorem has_nil (w : World) (i : Int) : Calls Try.prog 37 #[.pointer none, .int .i64 i] w fun e w' => e = .returned (.int .i64 1) ∧ w' = w := by
  go_enter Try.func37, Try.ntmps37
  go_wp2
  go_ret
  exact ⟨rfl, rfl⟩
set_option maxHeartbeats 1000000 in
set_option maxRecDepth 100000 in
theorem has_c (w : World) (p : Nat) (i : Int) (n : Nat) (A : Option Addr) (c : Nat) (hn : n ≤ 1024) (c2 : w.cell? ⟨p, 2, none⟩ = some (.slice A n c)) :
    Calls Try.prog 37 #[.pointer (some ⟨p, 0, none⟩), .int .i64 i] w fun e w' => e = .returned (.int .i64 (if i < 0 ∨ (n : Int) ≤ i then 92 else 0)) ∧ w' = w := by
  by_cases h1 : i < 0
  · rw [if_pos (.inl h1)]
    go_enter Try.func37, Try.ntmps37
    go_wp2
    go_ret
    exact ⟨rfl, rfl⟩
  · by_cases h2 : (n : Int) ≤ i
    · rw [if_pos (.inr h2)]
      go_enter Try.func37, Try.ntmps37
      go_wp2
      go_ret
      exact ⟨rfl, rfl⟩
    · rw [if_neg (by omega)]
      go_enter Try.func37, Try.ntmps37
      go_wp2
      go_ret
      exact ⟨rfl, rfl⟩
theorem Sep.block {w : World} {l : List Item} (h : Sep w l) {g : Nat} {o : Obj} (hm : (g, o) ∈ l) : w.heap[g]? = some o := h.2 (g, o) hm
theorem NetG.cells {w : World} {G : NetG} (h : Sep w G.items) : w.heap[G.p]? = some G.obj := h.head
theorem own_c' (w : World) (v : Value) (d : Dg) (h : BytesAt w v d.b) (hl : d.b.length ≤ 1212) :
    Calls Try.prog 36 #[.agg #[.int .i64 d.f, .int .i64 d.t, .int .u64 d.n, v, .bool d.sp]] w fun e w' => ∃ (g : Option Nat) (more : List Value) (A : Option Addr) (n c : Nat), e = .returned (.agg #[.int .i64 d.f, .int .i64 d.t, .int .u64 d.n, .slice A n c, .bool d.sp]) ∧ Dg.val { d with g := g, more := more } = .slice A n c ∧ (g = none → d.b = []) ∧ d.b.length + more.length ≤ maxLen ∧
      (∀ k, g = some k → w.heap.size ≤ k ∧ w'.heap[k]? = some (Dg.obj { d with g := g, more := more })) ∧ Only w w' [] := by
  refine (own_c w v d h hl).mono ?_
  rintro e w' ⟨g, more, rfl, r1, r2, r3, r4⟩
  obtain ⟨A1, n1, c1, hv1⟩ := Dg.val_slice { d with g := g, more := more }
  exact ⟨g, more, A1, n1, c1, by simp [Dg.cells, hv1], hv1, r1, r2, r3, r4⟩
/-- append of one datagram to a row, as a step of a region that draws. -/
theorem step_append_row {ops : Array Oper} {o : Oper} {a : Act} {w : World} {K : Act → World → Prop} {Q : Exit → Act → World → Prop} {E : Prop}
    (hg : o.guard = none) (s x : Operand) (hop : o.op = Op.call { callee := Callee.builtin Builtin.append, args := #[s, x], argTypes := #[41, 41] })
    (r : Row) (d : Dg) (vs : Value) (hs : a.eval s = vs) (hvs : vs = r.val) (ad : Addr) (c : Nat) (hx : a.eval x = .slice (some ad) 1 c) (hr : r.wf) (hd : d.wf) (hgb : ∀ g, r.g = some g → w.heap[g]? = some r.obj) (hc : ∀ j u, d.cells[j]? = some u → w.cell? (ad.add j) = some u) (hl : r.ds.length ≤ 4000)
    (hK : ∀ (r' : Row) (w' : World) (A' : Option Addr) (n' c' : Nat), r'.val = .slice A' n' c' → r'.ds = r.ds ++ [d] → r'.wf →
      ((∃ g, r.g = some g ∧ r'.g = some g ∧ w'.heap[g]? = some r'.obj ∧ Only w w' [g]) ∨ (∃ g, w.heap.size ≤ g ∧ r'.g = some g ∧ w'.heap[g]? = some r'.obj ∧ Only w w' [])) → K (a.put o.dst (.slice A' n' c')) w') :
    if Region.wanted o (yielded ops a.tmps) = true then Oper.wp Try.prog o a w K Q else E := by
  have hw : Region.wanted o (yielded ops a.tmps) = true := by simp [Region.wanted, hg]
  rw [if_pos hw]
  subst hvs
  obtain ⟨r', w', hrun, r1, r2, r3⟩ := run_append_row w o.type r d hr hd hgb ad c hc hl
  obtain ⟨A', c', hv⟩ := r'.val_slice r2
  rw [hv] at hrun
  unfold Oper.wp
  simp [execOp, hop, resolve, invoke, builtin, hs, hx, hrun, Result.andThen]
  exact hK r' w' A' _ c' hv r1 r2 r3
theorem Only.drew (w : World) (ks : List Nat) : Only w w.drew ks := ⟨rfl, rfl, rfl, Nat.le_refl _, fun _ _ _ => rfl⟩
theorem Dg.items_of {d : Dg} {g : Nat} (h : d.g = some g) : d.items = [(g, d.obj)] := by simp [Dg.items, h]
theorem Row.own_of {r : Row} {g : Nat} (h : r.g = some g) : r.own = [(g, r.obj)] := by simp [Row.own, h]
theorem Row.own_none {r : Row} (h : r.g = none) : r.own = [] := by simp [Row.own, h]
theorem heap_setCell {w : World} {g : Nat} {cs : Array Value} {t : TypeId} (h : w.heap[g]? = some (.cells cs t (0, 0))) (o : Nat) (v : Value) : (w.setCell ⟨g, o, none⟩ v).heap[g]? = some (.cells (cs.setIfInBounds o v) t (0, 0)) := by
  rw [setCell_eq_setRow w g o cs t (0, 0) v h]
  exact setRow_heap w g cs _ t _ h
theorem perm_by {α : Type} {l l' : List α} (h : ∀ (_ : DecidableEq α) (x : α), l.count x = l'.count x) : l.Perm l' := by
  classical
  exact List.perm_iff_count.2 (fun x => h _ x)
/-- Behind an append to the way. -/
theorem put_close {w w4 w5 : World} {G : NetG} {d : Dg} {r' : Row} {w3 : World} (hG : G.wf) (hS : Sep w G.items) (hd : d.wf) (ht : 1 ≤ d.t ∧ d.t ≤ G.nodes) (hl : G.way.ds.length < 1024)
    (h3 : Only w w3 []) (hb : ∀ k, d.g = some k → w.heap.size ≤ k ∧ w3.heap[k]? = some d.obj) (r1 : r'.ds = G.way.ds ++ [d]) (r2 : r'.wf)
    (r3 : (∃ g, G.way.g = some g ∧ r'.g = some g ∧ w4.heap[g]? = some r'.obj ∧ Only w3 w4 [g]) ∨ (∃ g, w3.heap.size ≤ g ∧ r'.g = some g ∧ w4.heap[g]? = some r'.obj ∧ Only w3 w4 []))
    (h5 : Only w4 w5 [G.p]) (hp : w5.heap[G.p]? = some (NetG.obj { G with way := r' })) : NetTo w w5 G.p (put0 G.abs d.abs) G.keys := by
  have hS3 : Sep w3 (d.items ++ G.items) := by
    have hS3 : Sep w3 G.items := hS.only h3 (fun _ _ => by simp)
    cases hg : d.g with
    | none => simpa [Dg.items, hg] using hS3
    | some k =>
      obtain ⟨q1, q2⟩ := hb k hg
      rw [Dg.items_of hg]
      exact hS3.join k _ q2 (fun hm => by have := hS.lt k hm; omega)
  have hsz : ∀ k ∈ (d.items ++ G.items).map (·.1), k ∈ G.keys ∨ w.heap.size ≤ k := by
    intro k hk
    rw [List.map_append, List.mem_append] at hk
    rcases hk with hk | hk
    · cases hg : d.g with
      | none => simp [Dg.items, hg] at hk
      | some k' =>
        rw [Dg.items_of hg] at hk
        simp at hk
        exact .inr (hk ▸ (hb k' hg).1)
    · exact .inl hk
  -- the row and the rest of the blocks, behind the append
  have hS4 : Sep w4 ((r'.own) ++ ((G.p, G.obj) :: (G.mb, .map G.es G.clock) :: (G.way.ds.flatMap Dg.items ++ G.boxItems ++ d.items))) ∧ Only w w4 G.keys ∧ (∀ k ∈ r'.own.map (·.1), k ∈ G.keys ∨ w.heap.size ≤ k) := by
    have hperm : (d.items ++ G.items).Perm (G.way.own ++ ((G.p, G.obj) :: (G.mb, .map G.es G.clock) :: (G.way.ds.flatMap Dg.items ++ G.boxItems ++ d.items))) := by
      simp only [NetG.items, Row.items]
      refine perm_by fun _ x => ?_
      simp only [List.count_append, List.count_cons]
      omega
    have hSp := hS3.perm hperm
    rcases r3 with ⟨g, g1, g2, g3, g4⟩ | ⟨g, g1, g2, g3, g4⟩
    · rw [Row.own_of g1] at hSp
      rw [Row.own_of g2]
      have hgk : g ∈ G.keys := List.mem_map.2 ⟨(g, G.way.obj), by simp [NetG.items, Row.items, Row.own_of g1], rfl⟩
      exact ⟨hSp.put g4 g3, (h3.weaken (ks2 := G.keys) (fun _ h => by cases h)).trans g4 (by simp [hgk]), by simp [hgk]⟩
    · rw [Row.own_of g2]
      have hSr : Sep w3 ((G.p, G.obj) :: (G.mb, .map G.es G.clock) :: (G.way.ds.flatMap Dg.items ++ G.boxItems ++ d.items)) := hSp.right
      refine ⟨(hSr.only g4 (fun _ _ => by simp)).join g _ g3 (fun hm => by have := hSr.lt g hm; omega), ?_, by intro k hk; simp at hk; exact .inr (hk ▸ Nat.le_trans h3.size g1)⟩
      exact (h3.weaken (ks2 := G.keys) (fun _ h => by cases h)).trans g4 (fun _ h => by cases h)
  obtain ⟨hS4, ho4, hk4⟩ := hS4
  have hpk : G.p ∈ G.keys := by simp [NetG.keys, NetG.items]
  have hS5 : Sep w5 (NetG.items { G with way := r' }) := by
    have hperm : (r'.own ++ ((G.p, G.obj) :: (G.mb, .map G.es G.clock) :: (G.way.ds.flatMap Dg.items ++ G.boxItems ++ d.items))).Perm ((G.p, G.obj) :: (G.mb, .map G.es G.clock) :: (r'.items ++ G.boxItems)) := by
      simp only [Row.items, r1, List.flatMap_append, List.flatMap_cons, List.flatMap_nil, List.append_nil]
      refine perm_by fun _ x => ?_
      simp only [List.count_append, List.count_cons]
      omega
    exact (hS4.perm hperm).put h5 hp
  have hto : ∀ x ∈ r'.ds, 1 ≤ x.t ∧ x.t ≤ G.nodes := fun x hx => by
    rw [r1, List.mem_append, List.mem_singleton] at hx
    rcases hx with hx | hx
    · exact hG.to x hx
    · rw [hx]; exact ht
  refine ⟨_, ⟨{ G with way := r' }, rfl, ?_, hS5, rfl, ?_⟩, ?_, ho4.trans h5 (by simp [hpk])⟩
  · exact { hG with way := r2, wlen := by simp only [r1, List.length_append, List.length_cons, List.length_nil]; omega, to := hto }
  · simp only [put0, NetG.abs, List.length_map]
    rw [if_neg (by omega)]
    simp [r1]
  · intro k hk
    simp only [NetG.keys, NetG.items, List.map_cons, List.map_append, List.mem_cons, List.mem_append, Row.items] at hk
    rcases hk with rfl | rfl | (hk | hk) | hk
    · exact .inl hpk
    · exact .inl (by simp [NetG.keys, NetG.items])
    · exact hk4 k hk
    · rw [r1, List.flatMap_append, List.map_append, List.mem_append] at hk
      rcases hk with hk | hk
      · exact .inl (by simp only [NetG.keys, NetG.items, Row.items, List.map_cons, List.map_append, List.mem_cons, List.mem_append]; exact .inr (.inr (.inl (.inr hk))))
      · exact hsz k (by simp only [List.map_append, List.mem_append]; exact .inl (by simpa using hk))
    · exact .inl (by simp only [NetG.keys, NetG.items, List.map_cons, List.map_append, List.mem_cons, List.mem_append]; exact .inr (.inr (.inr hk)))
set_option maxHeartbeats 2000000 in
set_option maxRecDepth 100000 in
theorem put_c (w : World) (p : Nat) (N : Net0) (K : List Nat) (hN : NetAt w p N K) (v : Value) (d : Dg) (h : BytesAt w v d.b) (hl : d.b.length ≤ 1212) (hb : ∀ x ∈ d.b, 0 ≤ x ∧ x < 256) (ht : 1 ≤ d.t ∧ d.t ≤ N.nodes) :
    Calls Try.prog 35 #[.pointer (some ⟨p, 0, none⟩), .agg #[.int .i64 d.f, .int .i64 d.t, .int .u64 d.n, v, .bool d.sp]] w fun e w' => e = .returned (.tuple #[]) ∧ NetTo w w' p (put0 N d.abs) K := by
  obtain ⟨G, hGp, hG, hS, rfl, rfl⟩ := hN
  obtain ⟨A, c, hv⟩ := G.way.val_slice hG.way
  have hp := hS.head
  simp only [NetG.obj, hv, hGp] at hp
  have hlt : p < w.heap.size := (Array.getElem?_eq_some_iff.1 hp).1
  obtain ⟨c0, c1, c2, c3, c4, f0, f1, f2, f3, f4⟩ := blk5 hp
  have hwl := hG.wlen
  by_cases hfull : 1024 ≤ G.way.ds.length
  · have hlen : G.way.ds.length = 1024 := by omega
    rw [hlen] at c2
    go_enter Try.func35, Try.ntmps35
    go_wp2
    refine bodyPost_ret (results_none rfl _ _ _) rfl ?_
    refine ⟨rfl, ?_⟩
    subst hGp
    have o1 := (Only.setCell w ⟨G.p, 4, none⟩ (.int .i64 (wrap64 (G.lost + 1)))).trans (Only.alloc _ (.cells #[.int .i64 d.f, .int .i64 d.t, .int .u64 d.n, v, .bool d.sp] 54) [G.p]) (fun _ h => .inl h)
    have hS2 := NetG.setNet (G' := { G with lost := wrap64 (G.lost + 1) }) hS (Only.setCell w ⟨G.p, 4, none⟩ (.int .i64 (wrap64 (G.lost + 1)))) rfl rfl rfl rfl rfl rfl rfl (by
      rw [heap_setCell hp]
      simp [NetG.obj, hv])
    have hlw : -9223372036854775808 ≤ wrap64 (G.lost + 1) ∧ wrap64 (G.lost + 1) ≤ 9223372036854775807 := by unfold wrap64; omega
    refine ⟨_, ⟨{ G with lost := wrap64 (G.lost + 1) }, rfl, { hG with lost := hlw }, hS2.only (Only.alloc _ _ []) (fun _ _ => by simp), rfl, ?_⟩, fun k hk => .inl hk, o1.weaken (fun k hk => .inl (by simp at hk; simp [NetG.keys, NetG.items, hk]))⟩
    simp [put0, NetG.abs, hlen]
  · obtain ⟨wa, hwa⟩ : ∃ wa, wa = (w.alloc (.cells #[.int .i64 d.f, .int .i64 d.t, .int .u64 d.n, v, .bool d.sp] 54)).drew := ⟨_, rfl⟩
    have oa : Only w wa [] := by rw [hwa]; exact (Only.alloc w _ []).trans (Only.drew _ []) (fun _ h => by cases h)
    have hA : BytesAt wa v d.b := h.only oa
    have hpa : wa.heap[p]? = some (.cells #[.int .i64 G.nodes, .int .u64 G.next, .slice A G.way.ds.length c, .map (some G.mb), .int .i64 G.lost] 79 (0, 0)) := by
      rw [oa.block p hlt (by simp)]; exact hp
    have hd3 : ∀ (g : Option Nat) (more : List Value), (g = none → d.b = []) → d.b.length + more.length ≤ maxLen → Dg.wf { d with g := g, more := more } := fun g more h1 h2 => ⟨h1, hl, h2, hb⟩
    have hgb : ∀ (w3 : World) (o : Obj), Only wa w3 [] → ∀ k, G.way.g = some k → (w3.alloc o).heap[k]? = some G.way.obj := by
      intro w3 o h3 k hk
      have hw := hS.block (g := k) (o := G.way.obj) (by simp [NetG.items, Row.items, Row.own_of hk])
      exact ((((oa.trans h3 (fun _ h => by cases h)).trans (Only.alloc w3 o []) (fun _ h => by cases h)).block k (Array.getElem?_eq_some_iff.1 hw).1 (by simp))).trans hw
    have hpk : ∀ (w3 : World) (o : Obj) (w4 : World), Only wa w3 [] → ∀ {r' : Row}, ((∃ g, G.way.g = some g ∧ r'.g = some g ∧ w4.heap[g]? = some r'.obj ∧ Only (w3.alloc o) w4 [g]) ∨ (∃ g, (w3.alloc o).heap.size ≤ g ∧ r'.g = some g ∧ w4.heap[g]? = some r'.obj ∧ Only (w3.alloc o) w4 [])) → w4.heap[p]? = wa.heap[p]? := by
      intro w3 o w4 h3 r' h4
      have hlt3 : p < (w3.alloc o).heap.size := by have := oa.size; have := h3.size; simp; omega
      have e3 : (w3.alloc o).heap[p]? = wa.heap[p]? := (h3.trans (Only.alloc w3 o []) (fun _ h => by cases h)).block p (by have := oa.size; omega) (by simp)
      rcases h4 with ⟨g, hg, _, _, h4⟩ | ⟨g, _, _, _, h4⟩
      · have hne : p ≠ g := by
          intro e
          have := hS.notin
          simp [hGp, Row.items, Row.own_of hg, e] at this
        exact (h4.block p hlt3 (by simp [hne])).trans e3
      · exact (h4.block p hlt3 (by simp)).trans e3
    have new5 : ∀ (g : Option Nat) (more : List Value) (w3 : World) {A1 : Option Addr} {n1 c1 : Nat}, Dg.val { d with g := g, more := more } = .slice A1 n1 c1 → ∀ j u, (Dg.cells { d with g := g, more := more })[j]? = some u → (w3.alloc (.cells #[.int .i64 d.f, .int .i64 d.t, .int .u64 d.n, .slice A1 n1 c1, .bool d.sp] 54)).cell? ((⟨w3.heap.size, 0, none⟩ : Addr).add j) = some u := by
      intro g more w3 A1 n1 c1 hq j u hj
      rw [Addr.add_lit]
      simp only [Dg.cells, hq] at hj
      have := World.cell?_alloc_new (w := w3) #[.int .i64 d.f, .int .i64 d.t, .int .u64 d.n, .slice A1 n1 c1, .bool d.sp] 54 (0 + j)
      rw [this, Nat.zero_add]
      simpa using hj
    go_enter Try.func35, Try.ntmps35
    go_wp2
    go_region_law (first
      | (refine step_append_row rfl _ _ rfl G.way { d with g := g, more := more } _ rfl hv.symm _ _ rfl hG.way (hd3 _ _ q1 q2) (hgb _ _ q4) (new5 _ _ _ q0) (by omega) ?_
         intro r' w4 A4 n4 c4' s0 s1 s2 s3
         have hp4 := (hpk _ _ _ q4 s3).trans hpa
         obtain ⟨z0, z1, z2, z3, z4, u0, u1, u2, u3, u4⟩ := blk5 hp4)
      | (go_simp; rw [← hwa]; go_at_call 36; refine (own_c' _ v d hA hl).mono ?_; rintro e w3 ⟨g, more, A1, n1, c1', rfl, q0, q1, q2, q3, q4⟩
         have hp3 := (q4.block p (by have := oa.size; omega) (by simp)).trans hpa
         have hlt3 : p < w3.heap.size := (Array.getElem?_eq_some_iff.1 hp3).1
         obtain ⟨x0, x1, x2, x3, x4, y0, y1, y2, y3, y4⟩ := blk5 hp3))
    all_goals (
      go_end0
      refine ⟨rfl, ?_⟩
      subst hGp
      refine put_close (d := { d with g := g, more := more }) (r' := r') (w3 := w3.alloc (.cells #[.int .i64 d.f, .int .i64 d.t, .int .u64 d.n, .slice A1 n1 c1', .bool d.sp] 54)) (w4 := w4) hG hS (hd3 _ _ q1 q2) ht (by omega) ((oa.trans q4 (fun _ h => by cases h)).trans (Only.alloc _ _ []) (fun _ h => by cases h)) (fun k hk => ?_) s1 s2 s3 (Only.setCell _ _ _) ?_
      · obtain ⟨t1, t2⟩ := q3 k hk
        refine ⟨Nat.le_trans oa.size t1, ?_⟩
        rw [Lib.alloc_old _ _ _ (Array.getElem?_eq_some_iff.1 t2).1]
        exact t2
      · rw [heap_setCell hp4]
        simp [NetG.obj, s0])
end Go.Proofs.Ytehgneiiajpgpaa
