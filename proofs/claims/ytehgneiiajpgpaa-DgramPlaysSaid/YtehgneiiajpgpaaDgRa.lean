/- dgram: the document's net in memory: rows that are read and never written. -/
import Derived.Test.YtehgneiiajpgpaaDgRw
namespace Go.Proofs.Ytehgneiiajpgpaa
open Go.RowKit
set_option linter.all false

/-- Bytes that lie in blocks of P. -/
def BytesIn (w : World) (P : Nat → Prop) (v : Value) (b : List Int) : Prop := BytesAt w v b ∧ ∀ a n c, v = .slice (some a) n c → b ≠ [] → P a.block
def cellsR (x : D0 × Value) : List Value := [.int .i64 x.1.f, .int .i64 x.1.t, .int .u64 x.1.n, x.2, .bool x.1.sp]
def flatR (l : List (D0 × Value)) : List Value := l.flatMap cellsR
theorem flatR_len : ∀ l : List (D0 × Value), (flatR l).length = l.length * 5
  | [] => rfl
  | d :: l => by
    have := flatR_len l
    simp only [flatR, List.flatMap_cons, List.length_append, List.length_cons] at this ⊢
    rw [this, show (cellsR d).length = 5 from rfl]
    omega
theorem flatR_app (a b : List (D0 × Value)) : flatR (a ++ b) = flatR a ++ flatR b := by simp [flatR]
theorem flatR_at : ∀ (l : List (D0 × Value)) (i : Nat) (x : D0 × Value), l[i]? = some x → ∀ j u, (cellsR x)[j]? = some u → (flatR l)[i * 5 + j]? = some u
  | [], _, _, h, _, _, _ => by simp at h
  | x :: l, 0, d, h, j, u, hj => by
    obtain rfl : x = d := by simpa using h
    have hl : j < (cellsR x).length := (List.getElem?_eq_some_iff.1 hj).1
    simp only [flatR, List.flatMap_cons, Nat.zero_mul, Nat.zero_add]
    rw [List.getElem?_append_left hl]
    exact hj
  | x :: l, i + 1, d, h, j, u, hj => by
    have ih := flatR_at l i d (by simpa using h) j u hj
    simp only [flatR, List.flatMap_cons] at ih ⊢
    rw [List.getElem?_append_right (by rw [show (cellsR x).length = 5 from rfl]; omega), show (i + 1) * 5 + j - (cellsR x).length = i * 5 + j by rw [show (cellsR x).length = 5 from rfl]; omega]
    exact ih
/-- A row of datagrams, in blocks of P. -/
structure RRow (w : World) (P : Nat → Prop) (v : Value) (l : List (D0 × Value)) : Prop where
  shape : ∃ A c, v = .slice A l.length c ∧ (l.length ≤ c ∧ c ≤ maxLen) ∧ ∀ i x, l[i]? = some x → ∃ g off, A = some ⟨g, off, none⟩ ∧ P g ∧ ∀ j u, (cellsR x)[j]? = some u → w.cell? ⟨g, off + i * 5 + j, none⟩ = some u
  bytes : ∀ x ∈ l, BytesIn w P x.2 x.1.b ∧ x.1.b.length ≤ 1212 ∧ ∀ y ∈ x.1.b, 0 ≤ y ∧ y < 256
theorem BytesIn.keep {w w' : World} {P : Nat → Prop} {v : Value} {b : List Int} (h : BytesIn w P v b) (hk : ∀ k, k < w.heap.size → P k → w'.heap[k]? = w.heap[k]?) : BytesIn w' P v b := by
  obtain ⟨⟨A, c, h1, h2, h3⟩, hP⟩ := h
  refine ⟨⟨A, c, h1, h2, fun ad ha j x hx => ?_⟩, hP⟩
  have hc := h3 ad ha j x hx
  have e : (ad.add j).block = ad.block := by unfold Addr.add; split <;> rfl
  have hb : b ≠ [] := fun e => by simp [e] at hx
  have hlt := World.block_lt_of_cell? _ _ hc
  exact (World.cell?_of_block (hk _ hlt (by rw [e]; exact hP ad _ _ (by rw [h1, ha]) hb))).trans hc
theorem BytesIn.to {w : World} {P Q : Nat → Prop} {v : Value} {b : List Int} (h : BytesIn w P v b) (hk : ∀ k, k < w.heap.size → P k → Q k) : BytesIn w Q v b := by
  refine ⟨h.1, fun a n c hv hb => hk _ ?_ (h.2 a n c hv hb)⟩
  obtain ⟨⟨A, c', h1, h2, h3⟩, hP⟩ := h
  cases b with
  | nil => exact absurd rfl hb
  | cons x l =>
    have h0 := h3 a (by rw [hv] at h1; simp only [Value.slice.injEq] at h1; exact h1.1.symm) 0 x rfl
    exact World.block_lt_of_cell? _ _ h0
theorem RRow.keep {w w' : World} {P : Nat → Prop} {v : Value} {l : List (D0 × Value)} (h : RRow w P v l) (hk : ∀ k, k < w.heap.size → P k → w'.heap[k]? = w.heap[k]?) : RRow w' P v l := by
  obtain ⟨⟨A, c, h1, h1', h2⟩, h3⟩ := h
  refine ⟨⟨A, c, h1, h1', fun i x hx => ?_⟩, fun x hx => ⟨(h3 x hx).1.keep hk, (h3 x hx).2⟩⟩
  obtain ⟨g, off, ha, hP, hc⟩ := h2 i x hx
  refine ⟨g, off, ha, hP, fun j u hj => ?_⟩
  have := hc j u hj
  exact (World.cell?_of_block (hk _ (World.block_lt_of_cell? _ _ this) hP)).trans this
theorem RRow.to {w : World} {P Q : Nat → Prop} {v : Value} {l : List (D0 × Value)} (h : RRow w P v l) (hk : ∀ k, k < w.heap.size → P k → Q k) : RRow w Q v l := by
  obtain ⟨⟨A, c, h1, h1', h2⟩, h3⟩ := h
  refine ⟨⟨A, c, h1, h1', fun i x hx => ?_⟩, fun x hx => ⟨(h3 x hx).1.to hk, (h3 x hx).2⟩⟩
  obtain ⟨g, off, ha, hP, hc⟩ := h2 i x hx
  exact ⟨g, off, ha, hk g (World.block_lt_of_cell? _ _ (hc 0 _ rfl)) hP, hc⟩
theorem RRow.only {w w' : World} {P : Nat → Prop} {v : Value} {l : List (D0 × Value)} (h : RRow w P v l) (ho : Only w w' []) : RRow w' P v l := h.keep (fun k hk _ => ho.block k hk (by simp))
theorem BytesIn.only {w w' : World} {P : Nat → Prop} {v : Value} {b : List Int} (h : BytesIn w P v b) (ho : Only w w' []) : BytesIn w' P v b := h.keep (fun k hk _ => ho.block k hk (by simp))
theorem RRow.nil (w : World) (P : Nat → Prop) : RRow w P (.slice none 0 0) [] := ⟨⟨none, 0, rfl, ⟨Nat.le_refl _, Nat.zero_le _⟩, fun i x h => by simp at h⟩, fun x h => by cases h⟩
/-- A row of the call's own is such a row. -/
theorem RRow.own {w : World} {P : Nat → Prop} {B : Nat} {v : Value} {l : List (D0 × Value)} (h : w.ownsRow B 54 5 v l.length (flatR l)) (hP : ∀ k, B ≤ k → P k) (hb : ∀ x ∈ l, BytesIn w P x.2 x.1.b ∧ x.1.b.length ≤ 1212 ∧ ∀ y ∈ x.1.b, 0 ≤ y ∧ y < 256) : RRow w P v l := by
  refine ⟨?_, hb⟩
  rcases h.2 with ⟨hv, h0⟩ | ⟨g, cap, cur, hv, h1, h2, h3, h4, h5, h6⟩
  · have : l = [] := List.eq_nil_of_length_eq_zero h0
    subst this
    exact ⟨none, 0, hv, ⟨Nat.le_refl _, Nat.zero_le _⟩, fun i x h => by simp at h⟩
  · refine ⟨_, cap, hv, ⟨h3, h4⟩, fun i x hx => ⟨g, 0, rfl, hP g h1, fun j u hj => ?_⟩⟩
    have hf := flatR_at l i x hx j u hj
    have hlt := (List.getElem?_eq_some_iff.1 hf).1
    rw [flatR_len] at hlt
    rw [← h6, List.getElem?_take, if_pos hlt] at hf
    rw [Lib.cell_of_heap h2, Nat.zero_add]
    simpa using hf
/-- append of such a row to one of the call's own. -/
theorem rr_append {W : World} {P : Nat → Prop} {B : Nat} {vb v2 : Value} {l1 l2 : List (D0 × Value)} (h : W.ownsRow B 54 5 vb l1.length (flatR l1)) (h2 : RRow W P v2 l2) (hB : B ≤ W.heap.size) (hn : l1.length + l2.length ≤ 100000) (ty : TypeId) :
    ∃ A c w', (Builtin.append_ #[41, 41] ty #[vb, v2]).run Try.prog W = .ok (.slice A (l1.length + l2.length) c) w' ∧ w'.ownsRow B 54 5 (.slice A (l1.length + l2.length) c) (l1 ++ l2).length (flatR (l1 ++ l2)) ∧ Only W w' (bl vb) := by
  obtain ⟨i0, hi, hz0, hz1, hz2⟩ := info_parts data_info
  obtain ⟨⟨A2, c2, rfl, hc2, hel⟩, hby⟩ := h2
  have hml : 140737488355328 ≤ maxLen := by decide
  have hshape : ∀ {w : World} {v : Value} {n : Nat} {xs : List Value}, w.ownsRow B 54 5 v n xs → ∃ A c, v = .slice A n c := by
    intro w v n xs h
    rcases h.2 with ⟨rfl, rfl⟩ | ⟨g, cap, cur, rfl, _⟩
    · exact ⟨_, _, rfl⟩
    · exact ⟨_, _, rfl⟩
  cases A2 with
  | none =>
    have hl2 : l2 = [] := by
      cases l2 with
      | nil => rfl
      | cons x l =>
        obtain ⟨g, off, ha, _⟩ := hel 0 x rfl
        cases ha
    subst hl2
    obtain ⟨A, c, rfl⟩ := hshape h
    have hc : l1.length ≤ c := by
      rcases h.2 with ⟨hv, h0⟩ | ⟨g, cap, cur, hv, h1, h2, h3, h4, h5, h6⟩
      · omega
      · simp only [Value.slice.injEq] at hv; omega
    refine ⟨A, c, W, ?_, by simpa using h, Only.refl W _⟩
    cases A with
    | none =>
      simp [Builtin.append_, run_underlying Try.underlying41, sizeOf, typeInfo, hi, Builtin.lenOf, Builtin.firstCells, hc, storeCells, Result.andThen]
    | some a => simp [Builtin.append_, run_underlying Try.underlying41, sizeOf, typeInfo, hi, Builtin.lenOf, Builtin.firstCells, hc, storeCells, Result.andThen]
  | some ad =>
    obtain ⟨v', w', hrun, r1, r2, _⟩ := run_append_own (P := Try.prog) (w := W) B 41 ty 54 i0 _ 5 56 Try.underlying41 hi hz0 hz1 hz2 rfl (by decide) vb l1.length (flatR l1) h ad l2.length c2 (flatR l2) (flatR_len l2) (by
      intro j u hj
      have hjl := (List.getElem?_eq_some_iff.1 hj).1
      rw [flatR_len] at hjl
      have hq : j / 5 < l2.length := by omega
      obtain ⟨x, hx⟩ : ∃ x, l2[j / 5]? = some x := ⟨_, List.getElem?_eq_getElem hq⟩
      obtain ⟨g, off, ha, _, hc⟩ := hel (j / 5) x hx
      cases ha
      rw [Addr.add_lit]
      have hr : j % 5 < (cellsR x).length := by rw [show (cellsR x).length = 5 from rfl]; omega
      have h5 := flatR_at l2 (j / 5) x hx (j % 5) _ (List.getElem?_eq_getElem hr)
      rw [show j / 5 * 5 + j % 5 = j by omega, hj] at h5
      have h6 := hc (j % 5) _ (List.getElem?_eq_getElem hr)
      rw [show off + j / 5 * 5 + j % 5 = off + j by omega] at h6
      rw [h6]
      exact h5.symm) (by
      intro u hu
      obtain ⟨x, hx, hu⟩ := List.mem_flatMap.1 hu
      obtain ⟨⟨⟨A', c', hv, _⟩, _⟩, _⟩ := hby x hx
      simp only [cellsR, List.mem_cons, List.not_mem_nil, or_false] at hu
      rcases hu with rfl | rfl | rfl | rfl | rfl
      · rfl
      · rfl
      · rfl
      · rw [hv]; rfl
      · rfl) (by omega) (by omega) hB
    obtain ⟨A, c, rfl⟩ := hshape r1
    refine ⟨A, c, w', hrun, by rw [List.length_append, flatR_app]; exact r1, Only.grown r2 (fun k hk => ?_)⟩
    unfold bl
    rw [hk]
    simp
/-- The document's net as such. -/
structure Ref0 where
  nodes : Int
  sent : Int
  way : List (D0 × Value)
  boxes : List (D0 × Value)
  lost : Int
/-- The document's net lies at these values. -/
structure RAt (w : World) (P : Nat → Prop) (vw vb : Value) (M : Ref0) : Prop where
  way : RRow w P vw M.way
  boxes : RRow w P vb M.boxes
abbrev refAgg (M : Ref0) (vw vb : Value) : Value := .agg #[.int .i64 M.nodes, .int .u64 M.sent, vw, vb, .int .i64 M.lost]
end Go.Proofs.Ytehgneiiajpgpaa
