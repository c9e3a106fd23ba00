/- dgram: Twin. -/
import Derived.Test.YtehgneiiajpgpaaDgF
namespace Go.Proofs.Ytehgneiiajpgpaa
open Go.RowKit Go.Maps
set_option linter.all false

theorem flat_at : ∀ (l : List Dg) (i : Nat) (d : Dg), l[i]? = some d → ∀ j u, d.cells[j]? = some u → (flat l)[i * 5 + j]? = some u
  | [], _, _, h, _, _, _ => by simp at h
  | x :: l, 0, d, h, j, u, hj => by
    obtain rfl : x = d := by simpa using h
    have hl : j < x.cells.length := (List.getElem?_eq_some_iff.1 hj).1
    simp only [flat, List.flatMap_cons, Nat.zero_mul, Nat.zero_add]
    rw [List.getElem?_append_left hl]
    exact hj
  | x :: l, i + 1, d, h, j, u, hj => by
    have ih := flat_at l i d (by simpa using h) j u hj
    simp only [flat, List.flatMap_cons] at ih ⊢
    rw [List.getElem?_append_right (by rw [show x.cells.length = 5 from rfl]; omega), show (i + 1) * 5 + j - x.cells.length = i * 5 + j by rw [show x.cells.length = 5 from rfl]; omega]
    exact ih
/-- A row's datagram, cell by cell. -/
theorem Row.at {w : World} {r : Row} {g : Nat} (h : w.heap[g]? = some r.obj) (i : Nat) (d : Dg) (hd : r.ds[i]? = some d) :
    w.cell? ⟨g, r.pre.length + i * 5, none⟩ = some (.int .i64 d.f) ∧ w.cell? ⟨g, r.pre.length + i * 5 + 1, none⟩ = some (.int .i64 d.t) ∧ w.cell? ⟨g, r.pre.length + i * 5 + 2, none⟩ = some (.int .u64 d.n) ∧ w.cell? ⟨g, r.pre.length + i * 5 + 3, none⟩ = some d.val ∧ w.cell? ⟨g, r.pre.length + i * 5 + 4, none⟩ = some (.bool d.sp) := by
  have hc := row_cells h
  have key : ∀ j u, d.cells[j]? = some u → w.cell? ⟨g, r.pre.length + i * 5 + j, none⟩ = some u := fun j u hj => by
    have := hc (i * 5 + j) u (flat_at _ i d hd j u hj)
    rw [Addr.add_lit] at this
    rw [Nat.add_assoc]
    exact this
  exact ⟨key 0 _ rfl, key 1 _ rfl, key 2 _ rfl, key 3 _ rfl, key 4 _ rfl⟩
def at0 (N : Net0) (i : Int) : Option D0 := if i < 0 then none else N.way[i.toNat]?
def twin0 (N : Net0) (i : Int) : Net0 × Int := match at0 N i with
  | none => (N, 92)
  | some d => (put0 N d, 0)
theorem at0_none {N : Net0} {i : Int} : at0 N i = none ↔ i < 0 ∨ (N.way.length : Int) ≤ i := by
  unfold at0
  split
  · simp [*]
  · rw [List.getElem?_eq_none_iff]; omega
/-- The net's way at a place. -/
theorem way_at {w : World} {G : NetG} (hG : G.wf) (hS : Sep w G.items) {i : Int} {x : D0} (h : at0 G.abs i = some x) : 0 ≤ i ∧ i < G.way.ds.length ∧ ∃ d, G.way.ds[i.toNat]? = some d ∧ d.abs = x ∧ d.wf ∧ ∃ g, G.way.g = some g ∧ w.heap[g]? = some G.way.obj := by
  have hn : ¬ (i < 0 ∨ (G.abs.way.length : Int) ≤ i) := fun hh => by rw [at0_none.2 hh] at h; cases h
  have hl : (G.abs.way.length : Int) = G.way.ds.length := by simp [NetG.abs]
  unfold at0 at h
  rw [if_neg (by omega)] at h
  simp only [NetG.abs, List.getElem?_map, Option.map_eq_some_iff] at h
  obtain ⟨d, hd, he⟩ := h
  refine ⟨by omega, by omega, d, hd, he, hG.way.one d (List.mem_of_getElem? hd), ?_⟩
  cases hg : G.way.g with
  | none => rw [(hG.way.nil hg).1] at hd; simp at hd
  | some g => exact ⟨g, rfl, hS.block (by simp [NetG.items, Row.items, Row.own_of hg])⟩
/-- A datagram's bytes. -/
theorem Dg.bytes {w : World} {d : Dg} (hd : d.wf) (h : ∀ x ∈ d.items, w.heap[x.1]? = some x.2) : BytesAt w d.val d.b := by
  cases hg : d.g with
  | none => exact ⟨none, 0, by simp [Dg.val, hg, hd.nil hg], fun _ => hd.nil hg, fun _ h => by cases h⟩
  | some g =>
    have hb := h (g, d.obj) (by simp [Dg.items, hg])
    refine ⟨some ⟨g, 0, none⟩, d.b.length + d.more.length, by simp only [Dg.val, hg], (fun h => by cases h), ?_⟩
    rintro ad ha j x hx
    cases ha
    have := row_cells (pre := []) (xs := d.b.map (Value.int .u8)) (post := d.more) (by simpa [Dg.obj] using hb) j (.int .u8 x) (by simp [hx])
    simpa using this
set_option maxHeartbeats 1000000 in
set_option maxRecDepth 100000 in
theorem twin_c (w : World) (p : Nat) (N : Net0) (K : List Nat) (hN : NetAt w p N K) (i : Int) :
    Calls Try.prog 17 #[.pointer (some ⟨p, 0, none⟩), .int .i64 i] w fun e w' => e = .returned (.int .i64 (twin0 N i).2) ∧ NetTo w w' p (twin0 N i).1 K := by
  obtain ⟨G, hGp, hG, hS, hK, hGN⟩ := id hN
  obtain ⟨A1, c1', hv⟩ := G.way.val_slice hG.way
  have hp := hS.head
  simp only [NetG.obj, hv, hGp] at hp
  obtain ⟨c0, c1, c2, c3, c4, f0, f1, f2, f3, f4⟩ := blk5 hp
  have hh := has_c w p i G.way.ds.length A1 c1' hG.wlen c2
  have hl : (G.abs.way.length : Int) = G.way.ds.length := by simp [NetG.abs]
  cases ha : at0 N i with
  | none =>
    have e0 : twin0 N i = (N, 92) := by simp [twin0, ha]
    rw [e0]
    rw [if_pos (by have := at0_none.1 ha; rw [← hGN] at this; omega)] at hh
    go_enter Try.func17, Try.ntmps17
    go_wp2_with (go_at_call 37; refine hh.mono ?_; rintro e w2 ⟨rfl, rfl⟩)
    go_ret
    exact ⟨rfl, .refl hN⟩
  | some x =>
    have e0 : twin0 N i = (put0 N x, 0) := by simp [twin0, ha]
    rw [e0]
    rw [if_neg (by have h1 := mt at0_none.2 (by rw [ha]; simp); rw [← hGN] at h1; omega)] at hh
    rw [← hGN] at ha
    obtain ⟨i0, i1, d, hd, rfl, hdw, g, hg, hgb⟩ := way_at hG hS ha
    obtain ⟨k, rfl⟩ : ∃ k : Nat, i = k := ⟨i.toNat, by omega⟩
    have hval : A1 = some ⟨g, G.way.pre.length, none⟩ := by simp only [Row.val, hg] at hv; simp only [Value.slice.injEq] at hv; exact hv.1.symm
    subst hval
    obtain ⟨x0, x1, x2, x3, x4⟩ := Row.at hgb k d (by simpa using hd)
    obtain ⟨A3, n3, c3', hv3⟩ := d.val_slice
    rw [hv3] at x3
    go_enter Try.func17, Try.ntmps17
    have hby : BytesAt w d.val d.b := Dg.bytes hdw (fun x hx => hS.2 x (by
      simp only [NetG.items, Row.items, List.mem_cons, List.mem_append]
      exact .inr (.inr (.inl (.inr (List.mem_flatMap.2 ⟨d, List.mem_of_getElem? hd, hx⟩))))))
    rw [hv3] at hby
    have hput := put_c w p N K hN (.slice A3 n3 c3') d hby hdw.len hdw.byte (by rw [← hGN]; exact hG.to d (List.mem_of_getElem? hd))
    go_wp2_with (first | (go_at_call 37; refine hh.mono ?_; rintro e w2 ⟨rfl, rfl⟩) | (go_at_call 35; refine hput.mono ?_; rintro e w3 ⟨rfl, hto⟩))
    go_ret
    exact ⟨rfl, hto⟩
end Go.Proofs.Ytehgneiiajpgpaa
