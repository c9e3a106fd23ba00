/- dgram: do, a taking; a sending. -/
import Derived.Test.YtehgneiiajpgpaaDgT
namespace Go.Proofs.Ytehgneiiajpgpaa
open Go.RowKit Go.Maps
set_option linter.all false
set_option maxHeartbeats 2000000
set_option maxRecDepth 100000
attribute [local go_sem ↓] Go.wp_at_zero Go.wp_at_succ

/-- A taking, in whatever world has grown out of w by new blocks. -/
def TakeOK (args : Array Value) (w : World) (K : List Nat) (Post : Dg → Bool → Int → World → World → Prop) : Prop :=
  ∀ W, Only w W [] → Calls Try.prog 33 args W fun e w' => ∃ d b c, e = .returned (.tuple #[.agg d.cells.toArray, .bool b, .int .i64 c]) ∧ Only W w' K ∧ Post d b c W w'
def DoneT (w : World) (Post : Dg → Bool → Int → World → World → Prop) (e : Ending) (w'' : World) : Prop :=
  ∃ d b c W w', e = .returned (.tuple #[.agg d.cells.toArray, .bool b, .int .i64 c]) ∧ Only w W [] ∧ w.heap.size + 3 ≤ W.heap.size ∧ Post d b c W w' ∧ Only w' w'' [w.heap.size + 1]
theorem do_5 (w : World) (ptr : Option Addr) (o : Op0) (A : Option Addr) (n c : Nat) (K : List Nat) (Post : Dg → Bool → Int → World → World → Prop) (hK : ∀ k ∈ K, k < w.heap.size) (hkd : o.kd = 5)
    (H : TakeOK #[.pointer ptr, .int .i64 o.f] w K Post) : Calls Try.prog 22 #[.pointer ptr, .agg (opCells o A n c)] w (DoneT w Post) := by
  obtain ⟨kd, f, t, i, at', m⟩ := o
  obtain rfl : kd = 5 := hkd
  obtain ⟨w3, hw3⟩ : ∃ w3, w3 = ((w.alloc (.cells (opCells ⟨5, f, t, i, at', m⟩ A n c) 51)).alloc (.cells zCells 54)).alloc (.cells zCells 54) := ⟨_, rfl⟩
  have o3 : Only w w3 [] := by rw [hw3]; exact ((Only.alloc w _ []).trans (Only.alloc _ _ []) (by simp)).trans (Only.alloc _ _ []) (by simp)
  have hz3 : w3.heap.size = w.heap.size + 3 := by rw [hw3]; simp
  have b0 : w3.heap[w.heap.size]? = some (.cells (opCells ⟨5, f, t, i, at', m⟩ A n c) 51 (0, 0)) := by
    rw [hw3]
    exact (Lib.alloc_old _ _ _ (by simp; omega)).trans ((Lib.alloc_old _ _ _ (by simp)).trans (heap_alloc_new w _))
  have b1 : w3.heap[w.heap.size + 1]? = some (.cells zCells 54 (0, 0)) := by
    rw [hw3]
    have := heap_alloc_new (w.alloc (.cells (opCells ⟨5, f, t, i, at', m⟩ A n c) 51)) (.cells zCells 54)
    exact (Lib.alloc_old _ _ _ (by simp)).trans (by simpa using this)
  have b2 : w3.heap[w.heap.size + 1 + 1]? = some (.cells zCells 54 (0, 0)) := by
    rw [hw3]
    have := heap_alloc_new ((w.alloc (.cells (opCells ⟨5, f, t, i, at', m⟩ A n c) 51)).alloc (.cells zCells 54)) (.cells zCells 54)
    simpa [Nat.add_assoc] using this
  obtain ⟨x0, x1, x2, x3, x4, x5, x6⟩ := blk7 b0
  obtain ⟨y0, y1, y2, y3, y4, u0, u1, u2, u3, u4⟩ := blk5 b1
  obtain ⟨z0, z1, z2, z3, z4, v0, v1, v2, v3, v4⟩ := blk5 b2
  have hkeep : ∀ W, Only w3 W K → W.heap[w.heap.size]? = w3.heap[w.heap.size]? ∧ W.heap[w.heap.size + 1]? = w3.heap[w.heap.size + 1]? ∧ W.heap[w.heap.size + 1 + 1]? = w3.heap[w.heap.size + 1 + 1]? := fun W h => by
    have hh : ∀ j, w.heap.size + j ∉ K := fun j hj => by have := hK _ hj; omega
    exact ⟨h.block _ (by omega) (hh 0), h.block _ (by omega) (hh 1), h.block _ (by omega) (hh (1 + 1))⟩
  go_enter Try.func22, Try.ntmps22
  go_wp2_with (first | (go_at_call 33; rw [← hw3]; clear hw3; refine (H _ o3).mono ?_; rintro e w4 ⟨d, b, cc, rfl, ho4, hP4⟩; obtain ⟨q1, q2, q3⟩ := hkeep w4 ho4; obtain ⟨yy0, yy1, yy2, yy3, yy4, uu0, uu1, uu2, uu3, uu4⟩ := blk5 (q2.trans b1); obtain ⟨A3, n3, c3, hv3⟩ := d.val_slice; simp only [Dg.cells, hv3]))
  refine bodyPost_ret (v := .tuple #[.agg #[.int .i64 d.f, .int .i64 d.t, .int .u64 d.n, .slice A3 n3 c3, .bool d.sp], .bool b, .int .i64 cc]) (by simp [results, Try.results22, go_sem, yy0, yy1, yy2, yy3, yy4]) rfl ?_
  refine ⟨d, b, cc, w3, w4, by simp [Dg.cells, hv3], o3, by omega, hP4, ?_⟩
  exact Only.set5 w4 (w.heap.size + 1) _ _ _ _ _ _ (by simp)
end Go.Proofs.Ytehgneiiajpgpaa
