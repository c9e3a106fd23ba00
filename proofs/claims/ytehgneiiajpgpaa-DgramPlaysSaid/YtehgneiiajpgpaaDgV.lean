/- dgram: do, a sending. -/
import Derived.Test.YtehgneiiajpgpaaDgU
namespace Go.Proofs.Ytehgneiiajpgpaa
open Go.RowKit Go.Maps
set_option linter.all false
set_option maxHeartbeats 2000000
set_option maxRecDepth 100000
attribute [local go_sem ↓] Go.wp_at_zero Go.wp_at_succ

/-- append of bytes to an empty row. -/
theorem run_copy_bytes (W : World) (B : Nat) (ty : TypeId) (v : Value) (b : List Int) (hB : W.heap[B]? = some (.cells #[] 5 (0, 0))) (h : BytesAt W v b) (hl : b.length ≤ 140737488355328) :
    ∃ (g : Nat) (more : List Value) (w' : World), (Builtin.append_ #[28, 28] ty #[.slice (some ⟨B, 0, none⟩) 0 0, v]).run Try.prog W = .ok (.slice (some ⟨g, 0, none⟩) b.length (b.length + more.length)) w' ∧
      w'.heap[g]? = some (.cells (b.map (Value.int .u8) ++ more).toArray 5 (0, 0)) ∧ B ≤ g ∧ b.length + more.length ≤ maxLen ∧ Only W w' [B] := by
  obtain ⟨i0, hi, hz0, hz1, hz2⟩ := info_parts byte_info
  obtain ⟨A, c, rfl, hn, hcl⟩ := h
  have hml : 140737488355328 ≤ maxLen := by decide
  by_cases hb : b = []
  · subst hb
    cases A with
    | none =>
      refine ⟨B, [], W, ?_, by simpa using hB, Nat.le_refl _, by simp, Only.refl W _⟩
      simp [Builtin.append_, run_underlying Try.underlying28, sizeOf, typeInfo, hi, Builtin.lenOf, Builtin.firstCells, storeCells, Result.andThen]
    | some ad =>
      have hrun := run_append_room_at (P := Try.prog) W 28 ty 5 i0 Try.underlying28 hi B 0 0 0 #[] hB ad 0 c [] (by simp) (by simp) (by simp) (by simp) (by simp)
      refine ⟨B, [], _, hrun, ?_, Nat.le_refl _, by simp, Only.setRow W B _⟩
      rw [setRow_heap W B _ _ _ _ hB]
      simp
  · cases A with
    | none => exact absurd (hn rfl) hb
    | some ad =>
      have hown : W.ownsRow B 5 1 (.slice (some ⟨B, 0, none⟩) 0 0) 0 [] := ⟨rfl, .inr ⟨B, 0, #[], rfl, Nat.le_refl _, hB, Nat.le_refl _, Nat.zero_le _, rfl, rfl⟩⟩
      have hBs : B ≤ W.heap.size := Nat.le_of_lt (Array.getElem?_eq_some_iff.1 hB).1
      obtain ⟨v', w', hrun, r1, r2, r3⟩ := run_append_own (P := Try.prog) W B 28 ty 5 i0 _ 1 1 Try.underlying28 hi hz0 hz1 hz2 rfl (by decide) (.slice (some ⟨B, 0, none⟩) 0 0) 0 [] hown ad b.length c (b.map (Value.int .u8)) (by simp) (by
        intro j u hj
        simp only [List.getElem?_map, Option.map_eq_some_iff] at hj
        obtain ⟨x, hx, rfl⟩ := hj
        exact hcl ad rfl j x hx) (by
        intro u hu
        obtain ⟨x, _, rfl⟩ := List.mem_map.1 hu
        rfl) (by omega) (by omega) hBs
      simp only [Nat.zero_add, List.nil_append] at r1
      rcases r1.2 with ⟨rfl, h0⟩ | ⟨g, cap, cur, rfl, hbg, hcell, hnc, hcm, hcs, htake⟩
      · exact absurd (List.eq_nil_of_length_eq_zero h0) hb
      · have hx : cur.toList = b.map (Value.int .u8) ++ cur.toList.drop b.length := by
          have e := List.take_append_drop (b.length * 1) cur.toList
          rw [htake, Nat.mul_one] at e
          exact e.symm
        refine ⟨g, cur.toList.drop b.length, w', ?_, ?_, hbg, ?_, Only.grown r2 (fun k hk => ?_)⟩
        · rw [hrun]
          congr 1
          simp only [List.length_drop, Array.length_toList]
          rw [show b.length + (cur.size - b.length) = cap by omega]
        · rw [hcell, ← hx, Array.toArray_toList]
        · simp only [List.length_drop, Array.length_toList]
          omega
        · simp [Value.ownBlock] at hk
          simp [hk]
/-- A sending of bytes that lie apart, in whatever world has grown out of w by new blocks. -/
def SendOK (ptr : Option Addr) (f t : Int) (b : List Int) (w : World) (K : List Nat) (Post : Int → World → World → Prop) : Prop :=
  ∀ W A c, Only w W [] → BytesAt W (.slice A b.length c) b → (∀ a, A = some a → w.heap.size ≤ a.block) → Calls Try.prog 14 #[.pointer ptr, .int .i64 f, .int .i64 t, .slice A b.length c] W fun e w' => ∃ c, e = .returned (.int .i64 c) ∧ Only W w' K ∧ Post c W w'
def DoneS (w : World) (Post : Int → World → World → Prop) (e : Ending) (w'' : World) : Prop :=
  ∃ c W w' ks, e = .returned (.tuple #[zeroDg, .bool false, .int .i64 c]) ∧ Only w W [] ∧ Post c W w' ∧ Only w' w'' ks ∧ ∀ k ∈ ks, w.heap.size ≤ k ∧ k < W.heap.size
theorem do_0 (w : World) (ptr : Option Addr) (o : Op0) (A : Option Addr) (c : Nat) (b : List Int) (K : List Nat) (Post : Int → World → World → Prop) (hK : ∀ k ∈ K, k < w.heap.size) (hkd : o.kd = 0)
    (hb : BytesAt w (.slice A b.length c) b) (hlb : b.length ≤ 140737488355328)
    (H : SendOK ptr o.f o.t b w K Post) : Calls Try.prog 22 #[.pointer ptr, .agg (opCells o A b.length c)] w (DoneS w Post) := by
  obtain ⟨kd, f, t, i, at', m⟩ := o
  obtain rfl : kd = 0 := hkd
  obtain ⟨w3, hw3⟩ : ∃ w3, w3 = ((w.alloc (.cells (opCells ⟨0, f, t, i, at', m⟩ A b.length c) 51)).alloc (.cells zCells 54)).alloc (.cells zCells 54) := ⟨_, rfl⟩
  have o3 : Only w w3 [] := by rw [hw3]; exact ((Only.alloc w _ []).trans (Only.alloc _ _ []) (by simp)).trans (Only.alloc _ _ []) (by simp)
  have hz3 : w3.heap.size = w.heap.size + 3 := by rw [hw3]; simp
  have b0 : w3.heap[w.heap.size]? = some (.cells (opCells ⟨0, f, t, i, at', m⟩ A b.length c) 51 (0, 0)) := by
    rw [hw3]
    exact (Lib.alloc_old _ _ _ (by simp; omega)).trans ((Lib.alloc_old _ _ _ (by simp)).trans (heap_alloc_new w _))
  have b1 : w3.heap[w.heap.size + 1]? = some (.cells zCells 54 (0, 0)) := by
    rw [hw3]
    have := heap_alloc_new (w.alloc (.cells (opCells ⟨0, f, t, i, at', m⟩ A b.length c) 51)) (.cells zCells 54)
    exact (Lib.alloc_old _ _ _ (by simp)).trans (by simpa using this)
  have b2 : w3.heap[w.heap.size + 1 + 1]? = some (.cells zCells 54 (0, 0)) := by
    rw [hw3]
    have := heap_alloc_new ((w.alloc (.cells (opCells ⟨0, f, t, i, at', m⟩ A b.length c) 51)).alloc (.cells zCells 54)) (.cells zCells 54)
    simpa [Nat.add_assoc] using this
  obtain ⟨w4, hw4⟩ : ∃ w4, w4 = w3.alloc (.cells #[] 5) := ⟨_, rfl⟩
  have o4 : Only w3 w4 [] := by rw [hw4]; exact Only.alloc w3 _ []
  have hz4 : w4.heap.size = w.heap.size + 4 := by rw [hw4]; simp; omega
  have b4 : w4.heap[w3.heap.size]? = some (.cells #[] 5 (0, 0)) := by rw [hw4]; exact heap_alloc_new w3 _
  obtain ⟨g, more, w5, hrun, b5, hg, hmore, o5⟩ := run_copy_bytes w4 w3.heap.size 28 _ b b4 (hb.only (o3.trans o4 (by simp))) hlb
  have hrun' := hrun
  rw [show w3.heap.size = w.heap.size + 1 + 1 + 1 from hz3] at hrun'
  clear hrun
  have o35 : Only w3 w5 [] := o4.trans o5 (by simp)
  have k0 : w5.heap[w.heap.size]? = some (.cells (opCells ⟨0, f, t, i, at', m⟩ A b.length c) 51 (0, 0)) := (o35.block _ (by omega) (by simp)).trans b0
  have k1 : w5.heap[w.heap.size + 1]? = some (.cells zCells 54 (0, 0)) := (o35.block _ (by omega) (by simp)).trans b1
  have k2 : w5.heap[w.heap.size + 1 + 1]? = some (.cells zCells 54 (0, 0)) := (o35.block _ (by omega) (by simp)).trans b2
  obtain ⟨x0, x1, x2, x3, x4, x5, x6⟩ := blk7 b0
  obtain ⟨xx0, xx1, xx2, xx3, xx4, xx5, xx6⟩ := blk7 k0
  have k0' : w4.heap[w.heap.size]? = some (.cells (opCells ⟨0, f, t, i, at', m⟩ A b.length c) 51 (0, 0)) := (o4.block _ (by omega) (by simp)).trans b0
  obtain ⟨r0, r1, r2, r3, r4, r5, r6⟩ := blk7 k0'
  have hnK : ∀ j, w.heap.size + j ∉ K := fun j hj => by have := hK _ hj; omega
  have hgl : g < w5.heap.size := (Array.getElem?_eq_some_iff.1 b5).1
  have o05 : Only w w5 [] := o3.trans o35 (by simp)
  have hby : BytesAt w5 (.slice (some ⟨g, 0, none⟩) b.length (b.length + more.length)) b := ⟨_, _, rfl, (fun h => by cases h), by
    rintro ad ha j x hx
    cases ha
    have := row_cells (pre := []) (xs := b.map (Value.int .u8)) (post := more) (by simpa using b5) j (.int .u8 x) (by simp [hx])
    simpa using this⟩
  have HS := H w5 _ _ o05 hby (fun a ha => by cases ha; show w.heap.size ≤ g; omega)
  have HH := Aside0.mk HS
  clear HS
  have HW := Aside0.mk (And.intro o3 (And.intro o35 (And.intro b4 b5)))
  clear b0 b1 b2 b4 b5 o4 o5
  go_enter Try.func22, Try.ntmps22
  go_wp2_with (first
    | (at_builtin; rw [← hw3, ← hw4]; clear hw3 hw4; refine wpList_append_by rfl _ _ _ _ rfl _ _ rfl rfl _ _ hrun' ?_)
    | (go_at_call 14; refine HH.out.mono ?_; rintro e w6 ⟨cc, rfl, ho6, hP6⟩))
  clear xx0 xx1 xx2 xx3 xx4 xx5 xx6 r0 r1 r2 r3 r4 r5 r6 x0 x1 x2 x3 x4 x5 x6 hrun'
  obtain ⟨_, _, _, hb5⟩ := HW.out
  have hgK : g ∉ K := fun h => by have := hK _ h; omega
  have hb6 : w6.heap[g]? = some (.cells (b.map (Value.int .u8) ++ more).toArray 5 (0, 0)) := (ho6.block g hgl hgK).trans hb5
  have hm9 : maxLen = 9223372036854775807 := rfl
  have hb63 : (b.length : Int) < 9223372036854775807 := by omega
  go_loopg [10] b.length (fun gk v10 wr => ∃ (d : Nat) (B : List Int), d ≤ b.length ∧ gk = b.length - d ∧ v10 = .int .i64 (d : Int) ∧ Aside0 (Only w6 wr [g]) ∧ Aside0 (wr.heap[g]? = some (.cells (B.map (Value.int .u8) ++ more).toArray 5 (0, 0))) ∧ Aside0 (B.length = b.length))
  case atStart => exact ⟨0, b, Nat.zero_le _, rfl, rfl, ⟨Only.refl _ _⟩, ⟨hb6⟩, ⟨rfl⟩⟩
  case round =>
    obtain ⟨d, B, hd, rfl, rfl, HO, HB, HL⟩ := hrel
    have HW6 := Aside0.mk hb6
    have HW5 := Aside0.mk hb5
    clear hb5 hb6 hm9
    by_cases hlt : (d : Int) < (b.length : Int)
    · have hlt1 : decide ((d : Int) < (b.length : Int)) = true := decide_eq_true hlt
      have hdl : d < B.length := by have := HL.out; omega
      obtain ⟨y, hy⟩ : ∃ y, B[d]? = some y := ⟨_, List.getElem?_eq_getElem hdl⟩
      have hB := HB.out
      have hc : wr.cell? ⟨g, d, none⟩ = some (.int .u8 y) := by
        have := row_cells (pre := []) (xs := B.map (Value.int .u8)) (post := more) (by simpa using hB) d (.int .u8 y) (by simp [hy])
        simpa [Addr.add_lit] using this
      have hf : wr.frozen? ⟨g, d, none⟩ = false := Lib.frozen_of_heap hB d
      have z0 : (0 : Int) ≤ (d : Int) := by omega
      have HY := Aside0.mk hy
      have HDL := Aside0.mk hdl
      clear hB hy hdl
      go_wp2
      go_roundg (b.length - (d + 1))
      case measure => have := HDL.out; have := HL.out; omega
      case rel =>
        refine ⟨d + 1, B.modify d (fun y => xorB y 255), by have := HDL.out; have := HL.out; omega, rfl, by simp, ⟨HO.out.trans (Only.setCell _ ⟨g, _, none⟩ _) (by simp)⟩, ⟨?_⟩, ⟨by rw [List.length_modify]; exact HL.out⟩⟩
        have hs := heap_setCell HB.out d (.int .u8 (xorB y 255))
        rw [cells_modify B more d y 255 HY.out] at hs
        exact hs
    · have hdd : d = b.length := by omega
      subst hdd
      clear hlt
      have hn1 : w.heap.size + 1 ≠ g := by omega
      have hn2 : w.heap.size + 1 + 1 ≠ g := by omega
      have l6 := ho6.size
      have e1 : wr.heap[w.heap.size + 1]? = some (.cells zCells 54 (0, 0)) := (HO.out.block _ (by omega) (by simpa using hn1)).trans ((ho6.block _ (by omega) (hnK 1)).trans k1)
      have e2 : wr.heap[w.heap.size + 1 + 1]? = some (.cells zCells 54 (0, 0)) := (HO.out.block _ (by omega) (by simpa using hn2)).trans ((ho6.block _ (by omega) (hnK (1 + 1))).trans k2)
      obtain ⟨yy0, yy1, yy2, yy3, yy4, uu0, uu1, uu2, uu3, uu4⟩ := blk5 e1
      obtain ⟨zz0, zz1, zz2, zz3, zz4, vv0, vv1, vv2, vv3, vv4⟩ := blk5 e2
      clear hn1 hn2 l6 e1 e2
      have HX := Aside0.mk (And.intro hgl (And.intro hg (And.intro hz3 o35)))
      clear hz4 hgl hz3 hg hgK hlb hb63 hmore k0 k1 k2 k0' hby hb HW5 HW6 hnK hK o3 o35
      go_wp2
      (try simp only [Exit.inBlock, Exit.then])
      refine bodyPost_ret (v := .tuple #[zeroDg, .bool false, .int .i64 cc]) (by simp [results, Try.results22, go_sem, yy0, yy1, yy2, yy3, yy4]) rfl ?_
      obtain ⟨hgl, hg, hz3, o35⟩ := HX.out
      refine ⟨cc, w5, w6, [g, w.heap.size + 1], rfl, o05, hP6, (HO.out.weaken (by simp)).trans (Only.set5 wr (w.heap.size + 1) _ _ _ _ _ _ (by simp)) (fun _ h => .inl h), fun k hk => ?_⟩
      simp only [List.mem_cons, List.not_mem_nil, or_false] at hk
      rcases hk with rfl | rfl
      · exact ⟨by omega, hgl⟩
      · have := o35.size
        exact ⟨by omega, by omega⟩
end Go.Proofs.Ytehgneiiajpgpaa
