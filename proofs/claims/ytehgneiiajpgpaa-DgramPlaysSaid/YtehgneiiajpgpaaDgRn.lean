/- dgram: both nets in one memory. -/
import Derived.Test.YtehgneiiajpgpaaDgRm
namespace Go.Proofs.Ytehgneiiajpgpaa
open Go.RowKit
set_option linter.all false
set_option maxHeartbeats 2000000
set_option maxRecDepth 100000

/-- No block of K, nor of D, nor bm. -/
def Off (K : List Nat) (bm : Nat) (D : List Nat) (k : Nat) : Prop := k ∉ K ∧ k ≠ bm ∧ k ∉ D
/-- The document's net lies in its variable bm; its rows lie in no block of K nor D. -/
structure PM (wr : World) (bm : Nat) (K D : List Nat) (M : Ref0) (vw vb : Value) : Prop where
  rat : RAt wr (Off K bm D) vw vb M
  cell : wr.heap[bm]? = some (.cells #[.int .i64 M.nodes, .int .u64 M.sent, vw, vb, .int .i64 M.lost] 59 (0, 0))
  offK : bm ∉ K
  offD : bm ∉ D
theorem RRow.off {wr w5 : World} {bm : Nat} {K D K' D' ks : List Nat} {v : Value} {l : List (D0 × Value)} (h : RRow wr (Off K bm D) v l) (ho : Only wr w5 ks) (hks : ∀ k ∈ ks, k ∈ K ∨ k ∈ D ∨ wr.heap.size ≤ k) (hK : ∀ k ∈ K', k ∈ K ∨ k ∈ D ∨ wr.heap.size ≤ k) (hD : ∀ k ∈ D', k ∈ K ∨ k ∈ D ∨ wr.heap.size ≤ k) : RRow w5 (Off K' bm D') v l := by
  have hno : ∀ k, k < wr.heap.size → Off K bm D k → ∀ l : List Nat, (∀ k ∈ l, k ∈ K ∨ k ∈ D ∨ wr.heap.size ≤ k) → k ∉ l := fun k hk hP l hl hm => by
    rcases hl k hm with h | h | h
    · exact hP.1 h
    · exact hP.2.2 h
    · omega
  refine (((h.to (Q := fun k => Off K bm D k ∧ Off K' bm D' k) (fun k hk hP => ⟨hP, hno k hk hP K' hK, hP.2.1, hno k hk hP D' hD⟩)).keep (fun k hk hP => ho.block k hk (hno k hk hP.1 ks hks)))).to (fun k _ hP => hP.2)
theorem PM.step {wr w5 : World} {bm : Nat} {K D K' D' ks : List Nat} {M : Ref0} {vw vb : Value} (h : PM wr bm K D M vw vb) (ho : Only wr w5 ks) (hks : ∀ k ∈ ks, k ∈ K ∨ k ∈ D ∨ wr.heap.size ≤ k) (hK : ∀ k ∈ K', k ∈ K ∨ k ∈ D ∨ wr.heap.size ≤ k) (hD : ∀ k ∈ D', k ∈ K ∨ k ∈ D ∨ wr.heap.size ≤ k) : PM w5 bm K' D' M vw vb := by
  have hb : bm < wr.heap.size := (Array.getElem?_eq_some_iff.1 h.cell).1
  have hno : ∀ l : List Nat, (∀ k ∈ l, k ∈ K ∨ k ∈ D ∨ wr.heap.size ≤ k) → bm ∉ l := fun l hl hm => by
    rcases hl bm hm with h1 | h1 | h1
    · exact h.offK h1
    · exact h.offD h1
    · omega
  exact ⟨⟨h.rat.way.off ho hks hK hD, h.rat.boxes.off ho hks hK hD⟩, (ho.block bm hb (hno ks hks)).trans h.cell, hno K' hK, hno D' hD⟩
/-- Behind the document's Do and the stores of what it answers. -/
theorem PM.did {w6 w7 w8 : World} {bm bx : Nat} {K D : List Nat} {M M' : Ref0} {vw vb vw' vb' : Value} (h : PM w6 bm K D M vw vb) (hK : ∀ k ∈ K, k < w6.heap.size) (hD : ∀ k ∈ D, k < w6.heap.size) (hbx : bx ∈ D) (hr : RAt w7 (fun k => Off K bm D k ∨ w6.heap.size ≤ k) vw' vb' M') (ho : Only w6 w7 []) (ho2 : Only w7 w8 [bm, bx])
    (hc : w8.heap[bm]? = some (.cells #[.int .i64 M'.nodes, .int .u64 M'.sent, vw', vb', .int .i64 M'.lost] 59 (0, 0))) : PM w8 bm K D M' vw' vb' := by
  have hb : bm < w6.heap.size := (Array.getElem?_eq_some_iff.1 h.cell).1
  have hto : ∀ k, k < w7.heap.size → Off K bm D k ∨ w6.heap.size ≤ k → Off K bm D k := fun k _ hP => by
    rcases hP with hP | hP
    · exact hP
    · exact ⟨fun hm => by have := hK k hm; omega, by omega, fun hm => by have := hD k hm; omega⟩
  have hkp : ∀ k, k < w7.heap.size → Off K bm D k → w8.heap[k]? = w7.heap[k]? := fun k hk hP => ho2.block k hk (by
    simp only [List.mem_cons, List.not_mem_nil, or_false]
    rintro (rfl | rfl)
    · exact hP.2.1 rfl
    · exact hP.2.2 hbx)
  exact ⟨⟨(hr.way.to hto).keep hkp, (hr.boxes.to hto).keep hkp⟩, hc, h.offK, h.offD⟩
/-- What holds at every round's head. -/
structure PS (w wr : World) (p bm : Nat) (N : Net0) (K D : List Nat) (M : Ref0) (vw vb : Value) (d : Nat) : Prop where
  own : Own w wr p N K
  pm : PM wr bm K D M vw vb
  sim : Sim N M.abs
  blen : M.boxes.length ≤ d
  ops : N.ops ≤ d
  lo : w.heap.size ≤ bm
theorem NetAt.wlen {w : World} {p : Nat} {N : Net0} {K : List Nat} (h : NetAt w p N K) : N.way.length ≤ 1024 := by
  obtain ⟨G, _, hG, _, _, rfl⟩ := h
  simpa [NetG.abs] using hG.wlen
theorem PS.wlen {w wr : World} {p bm : Nat} {N : Net0} {K D : List Nat} {M : Ref0} {vw vb : Value} {d : Nat} (h : PS w wr p bm N K D M vw vb d) : M.way.length ≤ 1024 := by
  have h1 := h.own.at'.wlen
  rw [h.sim.way] at h1
  simpa [Ref0.abs] using h1
theorem PS.quiet {w wr wq : World} {p bm : Nat} {N : Net0} {K D : List Nat} {M : Ref0} {vw vb : Value} {d : Nat} (h : PS w wr p bm N K D M vw vb d) (ho : Only wr wq []) : PS w wq p bm N K D M vw vb d :=
  ⟨h.own.quiet ho, h.pm.step ho (fun _ h => by cases h) (fun _ h => .inl h) (fun _ h => .inr (.inl h)), h.sim, h.blen, h.ops, h.lo⟩
/-- Writes into blocks of D. -/
theorem PS.zero {w wr wq : World} {p bm : Nat} {N : Net0} {K D ks : List Nat} {M : Ref0} {vw vb : Value} {d : Nat} (h : PS w wr p bm N K D M vw vb d) (ho : Only wr wq ks) (hks : ∀ k ∈ ks, k ∈ D ∧ k ∉ K ∧ w.heap.size ≤ k) : PS w wq p bm N K D M vw vb d :=
  ⟨h.own.onlys ho (fun k hk hm => (hks k hm).2.1 hk) (fun k hk => (hks k hk).2.2), h.pm.step ho (fun k hk => .inr (.inl (hks k hk).1)) (fun _ h => .inl h) (fun _ h => .inr (.inl h)), h.sim, h.blen, h.ops, h.lo⟩
theorem PS.free {w wr : World} {p bm : Nat} {N : Net0} {K D : List Nat} {M : Ref0} {vw vb : Value} {d : Nat} (h : PS w wr p bm N K D M vw vb d) : PS w wr p bm N K [] M vw vb d :=
  ⟨h.own, h.pm.step (Only.refl _ []) (fun _ h => by cases h) (fun _ h => .inl h) (fun _ h => by cases h), h.sim, h.blen, h.ops, h.lo⟩
theorem put0_ops (N : Net0) (d : D0) : (put0 N d).ops = N.ops := by unfold put0; split <;> rfl
theorem do0_ops (N : Net0) (o : Op0) (b : List Int) : (do0 N o b).1.ops ≤ N.ops + 1 := by
  unfold do0
  split
  · unfold send0
    split
    · exact Nat.le_succ _
    · split
      · exact Nat.le_succ _
      · dsimp only; rw [put0_ops]; exact Nat.le_succ _
  · split
    · unfold deliver0
      split
      · exact Nat.le_succ _
      · split
        · exact Nat.le_succ _
        · exact Nat.le_refl _
    · split
      · unfold drop0
        split <;> exact Nat.le_succ _
      · split
        · unfold twin0
          split
          · exact Nat.le_succ _
          · dsimp only; rw [put0_ops]; exact Nat.le_succ _
        · split
          · unfold spoil0
            split
            · exact Nat.le_succ _
            · split
              · exact Nat.le_succ _
              · split <;> exact Nat.le_succ _
          · split
            · unfold take0
              split
              · exact Nat.le_succ _
              · split
                · exact Nat.le_succ _
                · exact Nat.le_refl _
            · unfold wipe0
              split
              · exact Nat.le_succ _
              · exact Nat.le_succ _
/-- A row of the program's own is a row that can be read. -/
theorem NewRow.rrow {w w' : World} {R : Row} (h : NewRow w w' R) : RRow w' (fun k => w.heap.size ≤ k) R.val (R.ds.map fun d => (d.abs, d.val)) := by
  refine ⟨?_, fun x hx => ?_⟩
  · cases hg : R.g with
    | none =>
      obtain ⟨h1, h2⟩ := h.wf.nil hg
      exact ⟨none, 0, by simp [Row.val, hg, h1], ⟨by simp [h1], Nat.zero_le _⟩, fun i x hx => by simp [h1] at hx⟩
    | some g =>
      refine ⟨some ⟨g, R.pre.length, none⟩, R.ds.length + R.k, by simp [Row.val, hg], ⟨by simp, h.wf.cap⟩, fun i x hx => ⟨g, R.pre.length, rfl, ?_, ?_⟩⟩
      · exact h.new g (List.mem_map_of_mem (f := (·.1)) (a := (g, R.obj)) (by simp [Row.items, Row.own_of hg]))
      · have hb : w'.heap[g]? = some R.obj := h.sep.block (by simp [Row.items, Row.own_of hg])
        rw [List.getElem?_map, Option.map_eq_some_iff] at hx
        obtain ⟨d, hd, rfl⟩ := hx
        obtain ⟨x0, x1, x2, x3, x4⟩ := Row.at hb i d hd
        intro j u hj
        have hj5 : j < 5 := by
          have := (List.getElem?_eq_some_iff.1 hj).1
          simpa [cellsR] using this
        have h5 : j = 0 ∨ j = 1 ∨ j = 2 ∨ j = 3 ∨ j = 4 := by omega
        rcases h5 with rfl | rfl | rfl | rfl | rfl <;> simp [cellsR] at hj <;> subst hj <;> first | exact x0 | exact x1 | exact x2 | exact x3 | exact x4
  · obtain ⟨d, hd, rfl⟩ := List.mem_map.1 hx
    have hw := h.wf.one d hd
    refine ⟨⟨Dg.bytes hw (fun x hx => h.sep.block (by
      simp only [Row.items, List.mem_append, List.mem_flatMap]
      exact .inr ⟨d, hd, hx⟩)), fun a n c hv hb => ?_⟩, hw.len, hw.byte⟩
    cases hg : d.g with
    | none => exact absurd (hw.nil hg) hb
    | some g =>
      simp only [Dg.val, hg] at hv
      cases hv
      exact h.new g (List.mem_map_of_mem (f := (·.1)) (a := (g, d.obj)) (by
        simp only [Row.items, List.mem_append, List.mem_flatMap]
        exact .inr ⟨d, hd, by simp [Dg.items_of hg]⟩))
/-- What zeroing a row's bytes keeps: the row itself, and blocks of bytes long enough. -/
structure Zer (wr : World) (R : Row) : Prop where
  row : ∀ g, R.g = some g → wr.heap[g]? = some R.obj
  bytes : ∀ d ∈ R.ds, ∀ g, d.g = some g → ∃ cur : Array Value, wr.heap[g]? = some (.cells cur 5 (0, 0)) ∧ d.b.length ≤ cur.size
theorem NewRow.zer {w w' : World} {R : Row} (h : NewRow w w' R) : Zer w' R :=
  ⟨fun g hg => h.sep.block (by simp [Row.items, Row.own_of hg]), fun d hd g hg => ⟨_, h.sep.block (o := d.obj) (by
    simp only [Row.items, List.mem_append, List.mem_flatMap]
    exact .inr ⟨d, hd, by simp [Dg.items_of hg]⟩), by simp⟩⟩
theorem Zer.only {w w' : World} {R : Row} (h : Zer w R) (ho : Only w w' []) : Zer w' R :=
  ⟨fun g hg => (ho.block g (Array.getElem?_eq_some_iff.1 (h.row g hg)).1 (by simp)).trans (h.row g hg), fun d hd g hg => by
    obtain ⟨cur, h1, h2⟩ := h.bytes d hd g hg
    exact ⟨cur, (ho.block g (Array.getElem?_eq_some_iff.1 h1).1 (by simp)).trans h1, h2⟩⟩
theorem Zer.set {w : World} {R : Row} (h : Zer w R) {d : Dg} (hd : d ∈ R.ds) {g : Nat} (hg : d.g = some g) (hne : R.g ≠ some g) (k : Nat) (v : Value) : Zer (w.setCell ⟨g, k, none⟩ v) R := by
  have ho := Only.setCell w ⟨g, k, none⟩ v
  refine ⟨fun g' hg' => (ho.block g' (Array.getElem?_eq_some_iff.1 (h.row g' hg')).1 (by simp; rintro rfl; exact hne hg')).trans (h.row g' hg'), fun d' hd' g' hg' => ?_⟩
  obtain ⟨cur, h1, h2⟩ := h.bytes d' hd' g' hg'
  by_cases e : g' = g
  · subst e
    exact ⟨_, heap_setCell h1 k v, by simpa using h2⟩
  · exact ⟨cur, (ho.block g' (Array.getElem?_eq_some_iff.1 h1).1 (by simpa using e)).trans h1, h2⟩
theorem NewRow.apart {w w' : World} {R : Row} (h : NewRow w w' R) {d : Dg} (hd : d ∈ R.ds) {g : Nat} (hg : d.g = some g) : R.g ≠ some g ∧ w.heap.size ≤ g := by
  have hm : (g, d.obj) ∈ R.ds.flatMap Dg.items := List.mem_flatMap.2 ⟨d, hd, by simp [Dg.items_of hg]⟩
  refine ⟨fun e => ?_, h.new g (List.mem_map_of_mem (f := (·.1)) (a := (g, d.obj)) (by simp only [Row.items]; exact List.mem_append_right _ hm))⟩
  have hn := h.sep.1
  rw [Row.items, Row.own_of e, List.map_append] at hn
  exact (List.nodup_append.1 hn).2.2 g (by simp) g (List.mem_map_of_mem (f := (·.1)) hm) rfl
end Go.Proofs.Ytehgneiiajpgpaa
