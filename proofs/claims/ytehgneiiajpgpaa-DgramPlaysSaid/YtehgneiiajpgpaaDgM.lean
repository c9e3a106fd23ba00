/- dgram: no net; New, Lost, Box, Drop. -/
import Derived.Test.YtehgneiiajpgpaaDgL
namespace Go.Proofs.Ytehgneiiajpgpaa
open Go.RowKit Go.Maps
set_option linter.all false
set_option maxHeartbeats 1000000
set_option maxRecDepth 100000

theorem deliver_nil (w : World) (i : Int) : Calls Try.prog 18 #[.pointer none, .int .i64 i] w fun e w' => e = .returned (.int .i64 1) ∧ w' = w := by
  go_enter Try.func18, Try.ntmps18
  go_wp2_with (go_at_call 37; refine (has_nil w i).mono ?_; rintro e w2 ⟨rfl, rfl⟩)
  go_ret
  exact ⟨rfl, rfl⟩
theorem drop_nil (w : World) (i : Int) : Calls Try.prog 39 #[.pointer none, .int .i64 i] w fun e w' => e = .returned (.int .i64 1) ∧ w' = w := by
  go_enter Try.func39, Try.ntmps39
  go_wp2_with (go_at_call 37; refine (has_nil w i).mono ?_; rintro e w2 ⟨rfl, rfl⟩)
  go_ret
  exact ⟨rfl, rfl⟩
theorem twin_nil (w : World) (i : Int) : Calls Try.prog 17 #[.pointer none, .int .i64 i] w fun e w' => e = .returned (.int .i64 1) ∧ w' = w := by
  go_enter Try.func17, Try.ntmps17
  go_wp2_with (go_at_call 37; refine (has_nil w i).mono ?_; rintro e w2 ⟨rfl, rfl⟩)
  go_ret
  exact ⟨rfl, rfl⟩
theorem spoil_nil (w : World) (i at' m : Int) : Calls Try.prog 40 #[.pointer none, .int .i64 i, .int .i64 at', .int .u32 m] w fun e w' => e = .returned (.int .i64 1) ∧ w' = w := by
  go_enter Try.func40, Try.ntmps40
  go_wp2_with (go_at_call 37; refine (has_nil w i).mono ?_; rintro e w2 ⟨rfl, rfl⟩)
  go_ret
  exact ⟨rfl, rfl⟩
theorem wipe_nil (w : World) (i : Int) : Calls Try.prog 41 #[.pointer none, .int .i64 i] w fun e w' => e = .returned (.int .i64 1) ∧ w' = w := by
  go_enter Try.func41, Try.ntmps41
  go_wp2
  go_ret
  exact ⟨rfl, rfl⟩
theorem box_nil (w : World) (i : Int) : Calls Try.prog 19 #[.pointer none, .int .i64 i] w fun e w' => e = .returned (.int .i64 0) ∧ w' = w := by
  go_enter Try.func19, Try.ntmps19
  go_wp2
  go_ret
  exact ⟨rfl, rfl⟩
theorem lost_nil (w : World) : Calls Try.prog 16 #[.pointer none] w fun e w' => e = .returned (.int .i64 0) ∧ w' = w := by
  go_enter Try.func16, Try.ntmps16
  go_wp2
  go_ret
  exact ⟨rfl, rfl⟩
theorem flight_nil (w : World) : Calls Try.prog 15 #[.pointer none] w fun e w' => e = .returned (.slice none 0 0) ∧ w' = w := by
  go_enter Try.func15, Try.ntmps15
  go_wp2
  go_ret
  exact ⟨rfl, rfl⟩
abbrev zeroDg : Value := .agg #[.int .i64 0, .int .i64 0, .int .u64 0, .slice none 0 0, .bool false]
theorem Only.set5 (w : World) (b : Nat) (v0 v1 v2 v3 v4 : Value) (ks : List Nat) (hb : b ∈ ks) : Only w (((((w.setCell ⟨b, 0, none⟩ v0).setCell ⟨b, 1, none⟩ v1).setCell ⟨b, 2, none⟩ v2).setCell ⟨b, 3, none⟩ v3).setCell ⟨b, 4, none⟩ v4) ks :=
  ((((((Only.setCell w ⟨b, 0, none⟩ v0).trans (Only.setCell _ ⟨b, 1, none⟩ v1) (by simp)).trans (Only.setCell _ ⟨b, 2, none⟩ v2) (by simp)).trans (Only.setCell _ ⟨b, 3, none⟩ v3) (by simp)).trans (Only.setCell _ ⟨b, 4, none⟩ v4) (by simp))).weaken (by simp [hb])
theorem take_nil (w : World) (i : Int) : Calls Try.prog 33 #[.pointer none, .int .i64 i] w fun e w' => e = .returned (.tuple #[zeroDg, .bool false, .int .i64 1]) ∧ Only w w' [] := by
  have hb0 := heap_alloc_new w (.cells #[.int .i64 0, .int .i64 0, .int .u64 0, .slice none 0 0, .bool false] 54)
  obtain ⟨e0, e1, e2, e3, e4, h0, h1, h2, h3, h4⟩ := blk5 hb0
  go_enter Try.func33, Try.ntmps33
  go_wp2
  refine bodyPost_ret (v := .tuple #[zeroDg, .bool false, .int .i64 1]) (by simp [results, Try.results33, go_sem, e0, e1, e2, e3, e4]) rfl ⟨rfl, ?_⟩
  exact Only.alloc w _ []
theorem lost_c (w : World) (p : Nat) (N : Net0) (K : List Nat) (hN : NetAt w p N K) : Calls Try.prog 16 #[.pointer (some ⟨p, 0, none⟩)] w fun e w' => e = .returned (.int .i64 N.lost) ∧ w' = w := by
  obtain ⟨G, hGp, hG, hS, hK, hGN⟩ := id hN
  have hp := hS.head
  simp only [NetG.obj, hGp] at hp
  obtain ⟨c0, c1, c2, c3, c4, f0, f1, f2, f3, f4⟩ := blk5 hp
  have e0 : N.lost = G.lost := by rw [← hGN]; rfl
  rw [e0]
  go_enter Try.func16, Try.ntmps16
  go_wp2
  go_ret
  exact ⟨rfl, rfl⟩
theorem box_c (w : World) (p : Nat) (N : Net0) (K : List Nat) (hN : NetAt w p N K) (k : Int) (hk : (Lit.int .i64 k).wf = true) : Calls Try.prog 19 #[.pointer (some ⟨p, 0, none⟩), .int .i64 k] w fun e w' => e = .returned (.int .i64 (N.box k).length) ∧ w' = w := by
  obtain ⟨G, hGp, hG, hS, hK, hGN⟩ := id hN
  have hp := hS.head
  have hm := hS.tail.head
  simp only [NetG.obj, hGp] at hp
  obtain ⟨c0, c1, c2, c3, c4, f0, f1, f2, f3, f4⟩ := blk5 hp
  obtain ⟨A2, c2', hv2⟩ := (G.bx k).val_slice (hG.box k)
  have hl := map_look hG.map hm k hk
  have e0 : (N.box k).length = (G.bx k).ds.length := by rw [← hGN]; simp [NetG.abs]
  rw [e0]
  simp only [hv2] at hl
  go_enter Try.func19, Try.ntmps19
  go_wp2
  go_ret
  exact ⟨rfl, rfl⟩
abbrev noRow : Row := ⟨[], none, [], [], 0⟩
theorem new_bad (w : World) (n : Int) (h : ¬ (1 ≤ n ∧ n ≤ 64)) : Calls Try.prog 13 #[.int .i64 n] w fun e w' => e = .returned (.tuple #[.pointer none, .int .i64 90]) ∧ w' = w := by
  by_cases h1 : n < 1
  · go_enter Try.func13, Try.ntmps13
    go_wp2
    go_ret2
    exact ⟨rfl, rfl⟩
  · have h2 : 64 < n := by omega
    go_enter Try.func13, Try.ntmps13
    go_wp2
    go_ret2
    exact ⟨rfl, rfl⟩
theorem new_c (w : World) (n : Int) (h : 1 ≤ n ∧ n ≤ 64) : Calls Try.prog 13 #[.int .i64 n] w fun e w' => ∃ p K, e = .returned (.tuple #[.pointer (some ⟨p, 0, none⟩), .int .i64 0]) ∧ NetAt w' p ⟨n, 0, [], fun _ => [], 0, 0⟩ K ∧ (∀ k ∈ K, w.heap.size ≤ k) ∧ Only w w' [] := by
  have h1 : ¬ n < 1 := by omega
  have h2 : ¬ 64 < n := by omega
  have hmk := @run_makeMap Try.prog
  go_enter Try.func13, Try.ntmps13
  go_wp2
  go_ret2
  refine ⟨w.heap.size + 1, rfl, [w.heap.size + 1, w.heap.size], ⟨⟨w.heap.size + 1, w.heap.size, n, 0, 0, noRow, fun _ => noRow, #[], 0, 0⟩, rfl, ?_, ?_, ?_, ?_⟩, ?_, ?_⟩
  · have wr : noRow.wf := ⟨fun _ => ⟨rfl, rfl⟩, by simp, by simp, by simp⟩
    obtain ⟨es, clock, hb, F, hs, hD⟩ := World.ownsMap_made w Try.prog KT heldElem
    have e1 := heap_alloc_new w (.map #[] 0)
    rw [e1] at hb
    cases hb
    refine ⟨wr, by simp, fun _ => wr, by simp, h, by simp, fun _ _ => ⟨rfl, rfl⟩, ⟨F, hs, fun k _ => ?_⟩, by simp, by simp⟩
    rfl
  · have hs := (Sep.nil w).alloc (.map #[] 0)
    have hs2 := hs.alloc (.cells #[.int .i64 n, .int .u64 0, .slice none 0 0, .map (some w.heap.size), .int .i64 0] 79)
    have ef : List.flatMap (fun _ => ([] : List Item)) (keysTo n.toNat) = [] := by simp [List.flatMap_eq_nil_iff]
    simpa [NetG.items, NetG.obj, NetG.boxItems, Row.items, Row.own, Row.val, ef] using hs2
  · have ef : List.flatMap (fun _ => ([] : List Item)) (keysTo n.toNat) = [] := by simp [List.flatMap_eq_nil_iff]
    simp [NetG.keys, NetG.items, NetG.boxItems, Row.items, Row.own, ef]
  · simp [NetG.abs]
  · intro k hk
    simp at hk
    omega
  · exact (Only.alloc w _ []).trans (Only.alloc _ _ []) (by simp)
end Go.Proofs.Ytehgneiiajpgpaa
