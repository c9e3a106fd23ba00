/- dgram: a net in memory; node, own. -/
import Derived.Test.YtehgneiiajpgpaaDgB
import Derived.Lib.FrozenHead2
import Derived.Lib.OthersKept
namespace Go.Proofs.Ytehgneiiajpgpaa
open Go.RowKit
set_option linter.all false

/-- These bytes lie at this slice. -/
def BytesAt (w : World) (v : Value) (b : List Int) : Prop :=
  ∃ A c, v = .slice A b.length c ∧ (A = none → b = []) ∧ ∀ ad, A = some ad → ∀ j x, b[j]? = some x → w.cell? (ad.add j) = some (.int .u8 x)
theorem byte_info : (Try.prog.info? 5).map (fun i => (i.zero, i.size, i.bytes)) = some (some (.int .u8 0), 1, 1) := by kernel_rfl
/-- append of bytes to nil: a copy of them. -/
theorem run_own_bytes (w : World) (ty : TypeId) (v : Value) (d : Dg) (h : BytesAt w v d.b) (hl : d.b.length ≤ 1212) :
    ∃ (g : Option Nat) (more : List Value) (w' : World), (Builtin.append_ #[28, 28] ty #[.slice none 0 0, v]).run Try.prog w = .ok (Dg.val { d with g := g, more := more }) w' ∧ (g = none → d.b = []) ∧ d.b.length + more.length ≤ maxLen ∧
      (∀ k, g = some k → w.heap.size ≤ k ∧ w'.heap[k]? = some (Dg.obj { d with g := g, more := more })) ∧ Only w w' [] := by
  obtain ⟨i0, hi, hz0, hz1, hz2⟩ := info_parts byte_info
  obtain ⟨A, c, rfl, hn, hcl⟩ := h
  cases A with
  | none =>
    have hb := hn rfl
    refine ⟨none, [], w, ?_, fun _ => hb, by simp [maxLen]; omega, (fun k h => by cases h), Only.refl w _⟩
    rw [hb]
    simp [Builtin.append_, run_underlying Try.underlying28, sizeOf, typeInfo, hi, Builtin.lenOf, Builtin.firstCells, Dg.val]
  | some ad =>
    obtain ⟨v', w', hrun, r1, r2, r3⟩ := run_append_own (P := Try.prog) w w.heap.size 28 ty 5 i0 _ 1 1 Try.underlying28 hi hz0 hz1 hz2 rfl (by decide) (.slice none 0 0) 0 [] (World.ownsRow_nil w _ _ 1) ad d.b.length c (d.b.map (Value.int .u8)) (by simp) (by
        intro j u hj
        simp only [List.getElem?_map, Option.map_eq_some_iff] at hj
        obtain ⟨x, hx, rfl⟩ := hj
        exact hcl ad rfl j x hx) (by
        intro u hu
        obtain ⟨x, _, rfl⟩ := List.mem_map.1 hu
        rfl) (by simp [maxLen]; omega) (by omega) (Nat.le_refl _)
    simp only [Nat.zero_add, List.nil_append] at r1
    have r2' : Only w w' [] := Only.grown r2 (fun _ h => by cases h)
    rcases r1.2 with ⟨rfl, h0⟩ | ⟨g, cap, cur, rfl, hbg, hcell, hnc, hcm, hcs, htake⟩
    · have hb : d.b = [] := List.eq_nil_of_length_eq_zero h0
      exact ⟨none, [], w', hrun, fun _ => hb, by simp [maxLen]; omega, (fun k h => by cases h), r2'⟩
    · have hx : cur.toList = d.b.map (Value.int .u8) ++ cur.toList.drop d.b.length := by
        have e := List.take_append_drop (d.b.length * 1) cur.toList
        rw [htake, Nat.mul_one] at e
        exact e.symm
      refine ⟨some g, cur.toList.drop d.b.length, w', ?_, (fun h => by cases h), ?_, ?_, r2'⟩
      · rw [hrun]
        congr 1
        simp only [Dg.val, List.length_drop, Array.length_toList]
        rw [show d.b.length + (cur.size - d.b.length) = cap by omega]
      · simp only [List.length_drop, Array.length_toList]
        omega
      · intro k hk
        obtain rfl := Option.some.inj hk
        refine ⟨hbg, ?_⟩
        rw [hcell]
        simp only [Dg.obj]
        rw [← hx, Array.toArray_toList]

theorem blk5 {w : World} {g : Nat} {t : TypeId} {v0 v1 v2 v3 v4 : Value} (h : w.heap[g]? = some (.cells #[v0, v1, v2, v3, v4] t (0, 0))) :
    w.cell? ⟨g, 0, none⟩ = some v0 ∧ w.cell? ⟨g, 1, none⟩ = some v1 ∧ w.cell? ⟨g, 2, none⟩ = some v2 ∧ w.cell? ⟨g, 3, none⟩ = some v3 ∧ w.cell? ⟨g, 4, none⟩ = some v4 ∧ w.frozen? ⟨g, 0, none⟩ = false ∧ w.frozen? ⟨g, 1, none⟩ = false ∧ w.frozen? ⟨g, 2, none⟩ = false ∧ w.frozen? ⟨g, 3, none⟩ = false ∧ w.frozen? ⟨g, 4, none⟩ = false :=
  ⟨by rw [Lib.cell_of_heap h]; rfl, by rw [Lib.cell_of_heap h]; rfl, by rw [Lib.cell_of_heap h]; rfl, by rw [Lib.cell_of_heap h]; rfl, by rw [Lib.cell_of_heap h]; rfl, Lib.frozen_of_heap h 0, Lib.frozen_of_heap h 1, Lib.frozen_of_heap h 2, Lib.frozen_of_heap h 3, Lib.frozen_of_heap h 4⟩
theorem Dg.val_slice (d : Dg) : ∃ A n c, d.val = .slice A n c := by
  unfold Dg.val
  cases d.g with
  | none => exact ⟨_, _, _, rfl⟩
  | some g => exact ⟨_, _, _, rfl⟩
theorem BytesAt.only {w w' : World} {v : Value} {b : List Int} (h : BytesAt w v b) (ho : Only w w' []) : BytesAt w' v b := by
  obtain ⟨A, c, h1, h2, h3⟩ := h
  refine ⟨A, c, h1, h2, fun ad ha j x hx => ?_⟩
  have hc := h3 ad ha j x hx
  exact (World.cell?_of_block (ho.block _ (World.block_lt_of_cell? _ _ hc) (by simp))).trans hc
/-- append at the operation, by whatever is known of its run. -/
theorem wpList_append_by {P : Program} {w : World} {ops : Array Oper} {rest : List Oper} {o : Oper} {a : Act} {Q : Exit → Act → World → Prop} (hgd : o.guard = none) (s x : Operand) (t tx : TypeId)
    (ho : o.op = .call { callee := .builtin .append, args := #[s, x], argTypes := #[t, tx] }) (vs vx : Value) (hs : a.eval s = vs) (hx : a.eval x = vx) (v' : Value) (w' : World)
    (hrun : (Builtin.append_ #[t, tx] o.type #[vs, vx]).run P w = .ok v' w') (h : wpList P ops Q rest (a.put o.dst v') w') : wpList P ops Q (o :: rest) a w := by
  refine wpList_plain hgd fun K hK => ?_
  unfold Oper.wp execOp
  simp only [ho, resolve, invoke, builtin, Sem.run_bind, Sem.run_pure, Result.andThen_ok, List.map_toArray, List.map_cons, List.map_nil, hs, hx, hrun]
  exact hK _ _ h
set_option maxHeartbeats 1000000 in
set_option maxRecDepth 100000 in
theorem own_c (w : World) (v : Value) (d : Dg) (h : BytesAt w v d.b) (hl : d.b.length ≤ 1212) :
    Calls Try.prog 36 #[.agg #[.int .i64 d.f, .int .i64 d.t, .int .u64 d.n, v, .bool d.sp]] w fun e w' => ∃ (g : Option Nat) (more : List Value), e = .returned (.agg (Dg.cells { d with g := g, more := more }).toArray) ∧ (g = none → d.b = []) ∧ d.b.length + more.length ≤ maxLen ∧
      (∀ k, g = some k → w.heap.size ≤ k ∧ w'.heap[k]? = some (Dg.obj { d with g := g, more := more })) ∧ Only w w' [] := by
  obtain ⟨A, c, rfl, hn, hcl⟩ := id h
  obtain ⟨w2, hw2⟩ : ∃ w2, w2 = (w.alloc (.cells #[.int .i64 d.f, .int .i64 d.t, .int .u64 d.n, .slice A d.b.length c, .bool d.sp] 54)).alloc (.cells #[.int .i64 0, .int .i64 0, .int .u64 0, .slice none 0 0, .bool false] 54) := ⟨_, rfl⟩
  have ho2 : Only w w2 [] := by rw [hw2]; exact (Only.alloc w _ []).trans (Only.alloc _ _ []) (fun _ h => by cases h)
  have hs2 : w2.heap.size = w.heap.size + 2 := by rw [hw2]; simp
  have hb0 : w2.heap[w.heap.size]? = some (.cells #[.int .i64 d.f, .int .i64 d.t, .int .u64 d.n, .slice A d.b.length c, .bool d.sp] 54 (0, 0)) := by
    rw [hw2]
    exact (Lib.alloc_old _ _ _ (by simp)).trans (heap_alloc_new w _)
  obtain ⟨g, more, w3, hrun, r1, r2, r3, r4⟩ := run_own_bytes w2 28 _ d (h.only ho2) hl
  obtain ⟨A1, n1, c1, hv1⟩ := Dg.val_slice { d with g := g, more := more }
  rw [hv1] at hrun
  have hbz : w2.heap[w.heap.size + 1]? = some (.cells #[.int .i64 0, .int .i64 0, .int .u64 0, .slice none 0 0, .bool false] 54 (0, 0)) := by
    have := heap_alloc_new (w.alloc (.cells #[.int .i64 d.f, .int .i64 d.t, .int .u64 d.n, .slice A d.b.length c, .bool d.sp] 54)) (.cells #[.int .i64 0, .int .i64 0, .int .u64 0, .slice none 0 0, .bool false] 54)
    rw [hw2]
    simpa using this
  have hb3 : w3.heap[w.heap.size]? = some (.cells #[.int .i64 d.f, .int .i64 d.t, .int .u64 d.n, .slice A d.b.length c, .bool d.sp] 54 (0, 0)) := by
    rw [r4.block _ (by omega) (by simp)]; exact hb0
  have hb4 : w3.heap[w.heap.size + 1]? = some (.cells #[.int .i64 0, .int .i64 0, .int .u64 0, .slice none 0 0, .bool false] 54 (0, 0)) := by
    rw [r4.block _ (by omega) (by simp)]; exact hbz
  obtain ⟨c0, c1', c2, c3, c4, f0, f1, f2, f3, f4⟩ := blk5 hb3
  obtain ⟨e0, e1, e2, e3, e4, h0, h1, h2, h3, h4⟩ := blk5 hb4
  go_enter Try.func36, Try.ntmps36
  go_wp2_with (at_builtin; rw [← hw2]; refine wpList_append_by rfl _ _ _ _ rfl _ _ rfl rfl _ _ hrun ?_)
  have h03 : Only w w3 [] := ho2.trans r4 (fun _ h => by cases h)
  refine bodyPost_ret (v := .agg #[.int .i64 d.f, .int .i64 d.t, .int .u64 d.n, .slice A1 n1 c1, .bool d.sp]) (by simp [results, Try.results36, go_sem, e0, e1, e2, e3, e4]) rfl ⟨g, more, ?_, r1, r2, ?_, ?_⟩
  · simp [Dg.cells, hv1]
  · intro k hk
    obtain ⟨q1, q2⟩ := r3 k hk
    refine ⟨by omega, ?_⟩
    have ow : Only w3 _ [w.heap.size, w.heap.size + 1] := (((((Only.setCell w3 ⟨w.heap.size, 3, none⟩ (.slice A1 n1 c1)).weaken (ks2 := [w.heap.size, w.heap.size + 1]) (by simp)).trans (Only.setCell _ ⟨w.heap.size + 1, 0, none⟩ (.int .i64 d.f)) (by simp)).trans (Only.setCell _ ⟨w.heap.size + 1, 1, none⟩ (.int .i64 d.t)) (by simp)).trans (Only.setCell _ ⟨w.heap.size + 1, 2, none⟩ (.int .u64 d.n)) (by simp)).trans ((Only.setCell _ ⟨w.heap.size + 1, 3, none⟩ (.slice A1 n1 c1)).trans (Only.setCell _ ⟨w.heap.size + 1, 4, none⟩ (.bool d.sp)) (by simp)) (by simp)
    rw [ow.block k (Array.getElem?_eq_some_iff.1 q2).1 (by simp; omega)]
    exact q2
  · have ow : Only w3 _ [w.heap.size, w.heap.size + 1] := (((((Only.setCell w3 ⟨w.heap.size, 3, none⟩ (.slice A1 n1 c1)).weaken (ks2 := [w.heap.size, w.heap.size + 1]) (by simp)).trans (Only.setCell _ ⟨w.heap.size + 1, 0, none⟩ (.int .i64 d.f)) (by simp)).trans (Only.setCell _ ⟨w.heap.size + 1, 1, none⟩ (.int .i64 d.t)) (by simp)).trans (Only.setCell _ ⟨w.heap.size + 1, 2, none⟩ (.int .u64 d.n)) (by simp)).trans ((Only.setCell _ ⟨w.heap.size + 1, 3, none⟩ (.slice A1 n1 c1)).trans (Only.setCell _ ⟨w.heap.size + 1, 4, none⟩ (.bool d.sp)) (by simp)) (by simp)
    exact h03.trans ow (by simp)
end Go.Proofs.Ytehgneiiajpgpaa
