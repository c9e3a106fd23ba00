/- dgram: do. -/
import Derived.Test.YtehgneiiajpgpaaDgR
namespace Go.Proofs.Ytehgneiiajpgpaa
open Go.RowKit Go.Maps
set_option linter.all false
set_option maxHeartbeats 2000000
set_option maxRecDepth 100000
attribute [local go_sem ↓] Go.wp_at_zero Go.wp_at_succ

structure Op0 where
  kd : Int
  f : Int
  t : Int
  i : Int
  at' : Int
  m : Int
abbrev opCells (o : Op0) (A : Option Addr) (n c : Nat) : Array Value := #[.int .i64 o.kd, .int .i64 o.f, .int .i64 o.t, .int .i64 o.i, .int .i64 o.at', .int .u32 o.m, .slice A n c]
abbrev zCells : Array Value := #[.int .i64 0, .int .i64 0, .int .u64 0, .slice none 0 0, .bool false]
/-- A call whose answer is a number, in whatever world has grown out of w by new blocks. -/
def CallOK (f : Nat) (args : Array Value) (w : World) (K : List Nat) (Post : Int → World → World → Prop) : Prop :=
  ∀ W, Only w W [] → Calls Try.prog f args W fun e w' => ∃ c, e = .returned (.int .i64 c) ∧ Only W w' K ∧ Post c W w'
def Done (w : World) (Post : Int → World → World → Prop) (e : Ending) (w'' : World) : Prop :=
  ∃ c W w', e = .returned (.tuple #[zeroDg, .bool false, .int .i64 c]) ∧ Only w W [] ∧ w.heap.size + 3 ≤ W.heap.size ∧ Post c W w' ∧ Only w' w'' [w.heap.size + 1]
theorem blk7 {w : World} {g : Nat} {t : TypeId} {v0 v1 v2 v3 v4 v5 v6 : Value} (h : w.heap[g]? = some (.cells #[v0, v1, v2, v3, v4, v5, v6] t (0, 0))) :
    w.cell? ⟨g, 0, none⟩ = some v0 ∧ w.cell? ⟨g, 1, none⟩ = some v1 ∧ w.cell? ⟨g, 2, none⟩ = some v2 ∧ w.cell? ⟨g, 3, none⟩ = some v3 ∧ w.cell? ⟨g, 4, none⟩ = some v4 ∧ w.cell? ⟨g, 5, none⟩ = some v5 ∧ w.cell? ⟨g, 6, none⟩ = some v6 :=
  ⟨by rw [Lib.cell_of_heap h]; rfl, by rw [Lib.cell_of_heap h]; rfl, by rw [Lib.cell_of_heap h]; rfl, by rw [Lib.cell_of_heap h]; rfl, by rw [Lib.cell_of_heap h]; rfl, by rw [Lib.cell_of_heap h]; rfl, by rw [Lib.cell_of_heap h]; rfl⟩
theorem do_1 (w : World) (ptr : Option Addr) (o : Op0) (A : Option Addr) (n c : Nat) (K : List Nat) (Post : Int → World → World → Prop) (hK : ∀ k ∈ K, k < w.heap.size) (hkd : o.kd = 1)
    (H : CallOK 18 #[.pointer ptr, .int .i64 o.i] w K Post) : Calls Try.prog 22 #[.pointer ptr, .agg (opCells o A n c)] w (Done w Post) := by
  obtain ⟨kd, f, t, i, at', m⟩ := o
  obtain rfl : kd = 1 := hkd
  obtain ⟨w3, hw3⟩ : ∃ w3, w3 = ((w.alloc (.cells (opCells ⟨1, f, t, i, at', m⟩ A n c) 51)).alloc (.cells zCells 54)).alloc (.cells zCells 54) := ⟨_, rfl⟩
  have o3 : Only w w3 [] := by rw [hw3]; exact ((Only.alloc w _ []).trans (Only.alloc _ _ []) (by simp)).trans (Only.alloc _ _ []) (by simp)
  have hz3 : w3.heap.size = w.heap.size + 3 := by rw [hw3]; simp
  have b0 : w3.heap[w.heap.size]? = some (.cells (opCells ⟨1, f, t, i, at', m⟩ A n c) 51 (0, 0)) := by
    rw [hw3]
    exact (Lib.alloc_old _ _ _ (by simp; omega)).trans ((Lib.alloc_old _ _ _ (by simp)).trans (heap_alloc_new w _))
  have b1 : w3.heap[w.heap.size + 1]? = some (.cells zCells 54 (0, 0)) := by
    rw [hw3]
    have := heap_alloc_new (w.alloc (.cells (opCells ⟨1, f, t, i, at', m⟩ A n c) 51)) (.cells zCells 54)
    exact (Lib.alloc_old _ _ _ (by simp)).trans (by simpa using this)
  have b2 : w3.heap[w.heap.size + 1 + 1]? = some (.cells zCells 54 (0, 0)) := by
    rw [hw3]
    have := heap_alloc_new ((w.alloc (.cells (opCells ⟨1, f, t, i, at', m⟩ A n c) 51)).alloc (.cells zCells 54)) (.cells zCells 54)
    simpa [Nat.add_assoc] using this
  obtain ⟨x0, x1, x2, x3, x4, x5, x6⟩ := blk7 b0
  obtain ⟨y0, y1, y2, y3, y4, u0, u1, u2, u3, u4⟩ := blk5 b1
  obtain ⟨z0, z1, z2, z3, z4, v0, v1, v2, v3, v4⟩ := blk5 b2
  have hkeep : ∀ W, Only w3 W K → W.heap[w.heap.size]? = w3.heap[w.heap.size]? ∧ W.heap[w.heap.size + 1]? = w3.heap[w.heap.size + 1]? ∧ W.heap[w.heap.size + 1 + 1]? = w3.heap[w.heap.size + 1 + 1]? := fun W h => by
    have hh : ∀ j, w.heap.size + j ∉ K := fun j hj => by have := hK _ hj; omega
    exact ⟨h.block _ (by omega) (hh 0), h.block _ (by omega) (hh 1), h.block _ (by omega) (hh (1 + 1))⟩
  go_enter Try.func22, Try.ntmps22
  go_wp2
  rw [← hw3]
  clear hw3
  go_region_with (first | (go_at_call 18; refine (H _ (o3.trans (Only.drew w3 []) (by simp))).mono ?_; rintro e w4 ⟨cc, rfl, ho4, hP4⟩; obtain ⟨q1, q2, q3⟩ := hkeep w4 ((Only.drew w3 K).trans ho4 (fun _ h => .inl h)); obtain ⟨yy0, yy1, yy2, yy3, yy4, uu0, uu1, uu2, uu3, uu4⟩ := blk5 (q2.trans b1); obtain ⟨zz0, zz1, zz2, zz3, zz4, vv0, vv1, vv2, vv3, vv4⟩ := blk5 (q3.trans b2)))
  all_goals (
    go_wp2
    refine bodyPost_ret (v := .tuple #[zeroDg, .bool false, .int .i64 cc]) (by simp [results, Try.results22, go_sem, yy0, yy1, yy2, yy3, yy4]) rfl ?_
    refine ⟨cc, w3.drew, w4, rfl, o3.trans (Only.drew w3 []) (by simp), by show _ ≤ w3.heap.size; omega, hP4, ?_⟩
    exact Only.set5 w4 (w.heap.size + 1) _ _ _ _ _ _ (by simp))
theorem do_2 (w : World) (ptr : Option Addr) (o : Op0) (A : Option Addr) (n c : Nat) (K : List Nat) (Post : Int → World → World → Prop) (hK : ∀ k ∈ K, k < w.heap.size) (hkd : o.kd = 2)
    (H : CallOK 39 #[.pointer ptr, .int .i64 o.i] w K Post) : Calls Try.prog 22 #[.pointer ptr, .agg (opCells o A n c)] w (Done w Post) := by
  obtain ⟨kd, f, t, i, at', m⟩ := o
  obtain rfl : kd = 2 := hkd
  obtain ⟨w3, hw3⟩ : ∃ w3, w3 = ((w.alloc (.cells (opCells ⟨2, f, t, i, at', m⟩ A n c) 51)).alloc (.cells zCells 54)).alloc (.cells zCells 54) := ⟨_, rfl⟩
  have o3 : Only w w3 [] := by rw [hw3]; exact ((Only.alloc w _ []).trans (Only.alloc _ _ []) (by simp)).trans (Only.alloc _ _ []) (by simp)
  have hz3 : w3.heap.size = w.heap.size + 3 := by rw [hw3]; simp
  have b0 : w3.heap[w.heap.size]? = some (.cells (opCells ⟨2, f, t, i, at', m⟩ A n c) 51 (0, 0)) := by
    rw [hw3]
    exact (Lib.alloc_old _ _ _ (by simp; omega)).trans ((Lib.alloc_old _ _ _ (by simp)).trans (heap_alloc_new w _))
  have b1 : w3.heap[w.heap.size + 1]? = some (.cells zCells 54 (0, 0)) := by
    rw [hw3]
    have := heap_alloc_new (w.alloc (.cells (opCells ⟨2, f, t, i, at', m⟩ A n c) 51)) (.cells zCells 54)
    exact (Lib.alloc_old _ _ _ (by simp)).trans (by simpa using this)
  have b2 : w3.heap[w.heap.size + 1 + 1]? = some (.cells zCells 54 (0, 0)) := by
    rw [hw3]
    have := heap_alloc_new ((w.alloc (.cells (opCells ⟨2, f, t, i, at', m⟩ A n c) 51)).alloc (.cells zCells 54)) (.cells zCells 54)
    simpa [Nat.add_assoc] using this
  obtain ⟨x0, x1, x2, x3, x4, x5, x6⟩ := blk7 b0
  obtain ⟨y0, y1, y2, y3, y4, u0, u1, u2, u3, u4⟩ := blk5 b1
  obtain ⟨z0, z1, z2, z3, z4, v0, v1, v2, v3, v4⟩ := blk5 b2
  have hkeep : ∀ W, Only w3 W K → W.heap[w.heap.size]? = w3.heap[w.heap.size]? ∧ W.heap[w.heap.size + 1]? = w3.heap[w.heap.size + 1]? ∧ W.heap[w.heap.size + 1 + 1]? = w3.heap[w.heap.size + 1 + 1]? := fun W h => by
    have hh : ∀ j, w.heap.size + j ∉ K := fun j hj => by have := hK _ hj; omega
    exact ⟨h.block _ (by omega) (hh 0), h.block _ (by omega) (hh 1), h.block _ (by omega) (hh (1 + 1))⟩
  go_enter Try.func22, Try.ntmps22
  go_wp2
  rw [← hw3]
  clear hw3
  go_region_with (first | (go_at_call 39; refine (H _ (o3.trans (Only.drew w3 []) (by simp))).mono ?_; rintro e w4 ⟨cc, rfl, ho4, hP4⟩; obtain ⟨q1, q2, q3⟩ := hkeep w4 ((Only.drew w3 K).trans ho4 (fun _ h => .inl h)); obtain ⟨yy0, yy1, yy2, yy3, yy4, uu0, uu1, uu2, uu3, uu4⟩ := blk5 (q2.trans b1); obtain ⟨zz0, zz1, zz2, zz3, zz4, vv0, vv1, vv2, vv3, vv4⟩ := blk5 (q3.trans b2)))
  all_goals (
    go_wp2
    refine bodyPost_ret (v := .tuple #[zeroDg, .bool false, .int .i64 cc]) (by simp [results, Try.results22, go_sem, yy0, yy1, yy2, yy3, yy4]) rfl ?_
    refine ⟨cc, w3.drew, w4, rfl, o3.trans (Only.drew w3 []) (by simp), by show _ ≤ w3.heap.size; omega, hP4, ?_⟩
    exact Only.set5 w4 (w.heap.size + 1) _ _ _ _ _ _ (by simp))
theorem do_3 (w : World) (ptr : Option Addr) (o : Op0) (A : Option Addr) (n c : Nat) (K : List Nat) (Post : Int → World → World → Prop) (hK : ∀ k ∈ K, k < w.heap.size) (hkd : o.kd = 3)
    (H : CallOK 17 #[.pointer ptr, .int .i64 o.i] w K Post) : Calls Try.prog 22 #[.pointer ptr, .agg (opCells o A n c)] w (Done w Post) := by
  obtain ⟨kd, f, t, i, at', m⟩ := o
  obtain rfl : kd = 3 := hkd
  obtain ⟨w3, hw3⟩ : ∃ w3, w3 = ((w.alloc (.cells (opCells ⟨3, f, t, i, at', m⟩ A n c) 51)).alloc (.cells zCells 54)).alloc (.cells zCells 54) := ⟨_, rfl⟩
  have o3 : Only w w3 [] := by rw [hw3]; exact ((Only.alloc w _ []).trans (Only.alloc _ _ []) (by simp)).trans (Only.alloc _ _ []) (by simp)
  have hz3 : w3.heap.size = w.heap.size + 3 := by rw [hw3]; simp
  have b0 : w3.heap[w.heap.size]? = some (.cells (opCells ⟨3, f, t, i, at', m⟩ A n c) 51 (0, 0)) := by
    rw [hw3]
    exact (Lib.alloc_old _ _ _ (by simp; omega)).trans ((Lib.alloc_old _ _ _ (by simp)).trans (heap_alloc_new w _))
  have b1 : w3.heap[w.heap.size + 1]? = some (.cells zCells 54 (0, 0)) := by
    rw [hw3]
    have := heap_alloc_new (w.alloc (.cells (opCells ⟨3, f, t, i, at', m⟩ A n c) 51)) (.cells zCells 54)
    exact (Lib.alloc_old _ _ _ (by simp)).trans (by simpa using this)
  have b2 : w3.heap[w.heap.size + 1 + 1]? = some (.cells zCells 54 (0, 0)) := by
    rw [hw3]
    have := heap_alloc_new ((w.alloc (.cells (opCells ⟨3, f, t, i, at', m⟩ A n c) 51)).alloc (.cells zCells 54)) (.cells zCells 54)
    simpa [Nat.add_assoc] using this
  obtain ⟨x0, x1, x2, x3, x4, x5, x6⟩ := blk7 b0
  obtain ⟨y0, y1, y2, y3, y4, u0, u1, u2, u3, u4⟩ := blk5 b1
  obtain ⟨z0, z1, z2, z3, z4, v0, v1, v2, v3, v4⟩ := blk5 b2
  have hkeep : ∀ W, Only w3 W K → W.heap[w.heap.size]? = w3.heap[w.heap.size]? ∧ W.heap[w.heap.size + 1]? = w3.heap[w.heap.size + 1]? ∧ W.heap[w.heap.size + 1 + 1]? = w3.heap[w.heap.size + 1 + 1]? := fun W h => by
    have hh : ∀ j, w.heap.size + j ∉ K := fun j hj => by have := hK _ hj; omega
    exact ⟨h.block _ (by omega) (hh 0), h.block _ (by omega) (hh 1), h.block _ (by omega) (hh (1 + 1))⟩
  go_enter Try.func22, Try.ntmps22
  go_wp2
  rw [← hw3]
  clear hw3
  go_region_with (first | (go_at_call 17; refine (H _ (o3.trans (Only.drew w3 []) (by simp))).mono ?_; rintro e w4 ⟨cc, rfl, ho4, hP4⟩; obtain ⟨q1, q2, q3⟩ := hkeep w4 ((Only.drew w3 K).trans ho4 (fun _ h => .inl h)); obtain ⟨yy0, yy1, yy2, yy3, yy4, uu0, uu1, uu2, uu3, uu4⟩ := blk5 (q2.trans b1); obtain ⟨zz0, zz1, zz2, zz3, zz4, vv0, vv1, vv2, vv3, vv4⟩ := blk5 (q3.trans b2)))
  all_goals (
    go_wp2
    refine bodyPost_ret (v := .tuple #[zeroDg, .bool false, .int .i64 cc]) (by simp [results, Try.results22, go_sem, yy0, yy1, yy2, yy3, yy4]) rfl ?_
    refine ⟨cc, w3.drew, w4, rfl, o3.trans (Only.drew w3 []) (by simp), by show _ ≤ w3.heap.size; omega, hP4, ?_⟩
    exact Only.set5 w4 (w.heap.size + 1) _ _ _ _ _ _ (by simp))
theorem do_6 (w : World) (ptr : Option Addr) (o : Op0) (A : Option Addr) (n c : Nat) (K : List Nat) (Post : Int → World → World → Prop) (hK : ∀ k ∈ K, k < w.heap.size) (hkd : o.kd = 6)
    (H : CallOK 41 #[.pointer ptr, .int .i64 o.f] w K Post) : Calls Try.prog 22 #[.pointer ptr, .agg (opCells o A n c)] w (Done w Post) := by
  obtain ⟨kd, f, t, i, at', m⟩ := o
  obtain rfl : kd = 6 := hkd
  obtain ⟨w3, hw3⟩ : ∃ w3, w3 = ((w.alloc (.cells (opCells ⟨6, f, t, i, at', m⟩ A n c) 51)).alloc (.cells zCells 54)).alloc (.cells zCells 54) := ⟨_, rfl⟩
  have o3 : Only w w3 [] := by rw [hw3]; exact ((Only.alloc w _ []).trans (Only.alloc _ _ []) (by simp)).trans (Only.alloc _ _ []) (by simp)
  have hz3 : w3.heap.size = w.heap.size + 3 := by rw [hw3]; simp
  have b0 : w3.heap[w.heap.size]? = some (.cells (opCells ⟨6, f, t, i, at', m⟩ A n c) 51 (0, 0)) := by
    rw [hw3]
    exact (Lib.alloc_old _ _ _ (by simp; omega)).trans ((Lib.alloc_old _ _ _ (by simp)).trans (heap_alloc_new w _))
  have b1 : w3.heap[w.heap.size + 1]? = some (.cells zCells 54 (0, 0)) := by
    rw [hw3]
    have := heap_alloc_new (w.alloc (.cells (opCells ⟨6, f, t, i, at', m⟩ A n c) 51)) (.cells zCells 54)
    exact (Lib.alloc_old _ _ _ (by simp)).trans (by simpa using this)
  have b2 : w3.heap[w.heap.size + 1 + 1]? = some (.cells zCells 54 (0, 0)) := by
    rw [hw3]
    have := heap_alloc_new ((w.alloc (.cells (opCells ⟨6, f, t, i, at', m⟩ A n c) 51)).alloc (.cells zCells 54)) (.cells zCells 54)
    simpa [Nat.add_assoc] using this
  obtain ⟨x0, x1, x2, x3, x4, x5, x6⟩ := blk7 b0
  obtain ⟨y0, y1, y2, y3, y4, u0, u1, u2, u3, u4⟩ := blk5 b1
  obtain ⟨z0, z1, z2, z3, z4, v0, v1, v2, v3, v4⟩ := blk5 b2
  have hkeep : ∀ W, Only w3 W K → W.heap[w.heap.size]? = w3.heap[w.heap.size]? ∧ W.heap[w.heap.size + 1]? = w3.heap[w.heap.size + 1]? ∧ W.heap[w.heap.size + 1 + 1]? = w3.heap[w.heap.size + 1 + 1]? := fun W h => by
    have hh : ∀ j, w.heap.size + j ∉ K := fun j hj => by have := hK _ hj; omega
    exact ⟨h.block _ (by omega) (hh 0), h.block _ (by omega) (hh 1), h.block _ (by omega) (hh (1 + 1))⟩
  go_enter Try.func22, Try.ntmps22
  go_wp2
  rw [← hw3]
  clear hw3
  go_region_with (first | (go_at_call 41; refine (H _ (o3.trans (Only.drew w3 []) (by simp))).mono ?_; rintro e w4 ⟨cc, rfl, ho4, hP4⟩; obtain ⟨q1, q2, q3⟩ := hkeep w4 ((Only.drew w3 K).trans ho4 (fun _ h => .inl h)); obtain ⟨yy0, yy1, yy2, yy3, yy4, uu0, uu1, uu2, uu3, uu4⟩ := blk5 (q2.trans b1); obtain ⟨zz0, zz1, zz2, zz3, zz4, vv0, vv1, vv2, vv3, vv4⟩ := blk5 (q3.trans b2)))
  all_goals (
    go_wp2
    refine bodyPost_ret (v := .tuple #[zeroDg, .bool false, .int .i64 cc]) (by simp [results, Try.results22, go_sem, yy0, yy1, yy2, yy3, yy4]) rfl ?_
    refine ⟨cc, w3.drew, w4, rfl, o3.trans (Only.drew w3 []) (by simp), by show _ ≤ w3.heap.size; omega, hP4, ?_⟩
    exact Only.set5 w4 (w.heap.size + 1) _ _ _ _ _ _ (by simp))
end Go.Proofs.Ytehgneiiajpgpaa
