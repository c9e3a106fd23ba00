/- dgram: how many there are. -/
import Derived.Test.YtehgneiiajpgpaaDgY
namespace Go.Proofs.Ytehgneiiajpgpaa
open Go.RowKit
set_option linter.all false

def sumL (f : Int → List D0) (l : List Int) : Nat := (l.map fun k => (f k).length).sum
def boxSum (N : Net0) : Nat := sumL N.box (keysTo N.nodes.toNat)
theorem sumL_out (f : Int → List D0) (k : Int) (x : List D0) : ∀ l : List Int, k ∉ l → sumL (upd0 f k x) l = sumL f l
  | [], _ => rfl
  | j :: l, h => by
    have hj : j ≠ k := fun e => h (by simp [e])
    have ih := sumL_out f k x l (fun hm => h (List.mem_cons_of_mem _ hm))
    simp only [sumL, List.map_cons, List.sum_cons] at ih ⊢
    rw [ih]
    simp [upd0, hj]
theorem sumL_upd (f : Int → List D0) (k : Int) (x : List D0) : ∀ l : List Int, l.Nodup → k ∈ l → sumL (upd0 f k x) l + (f k).length = sumL f l + x.length
  | [], _, h => by cases h
  | j :: l, hn, h => by
    obtain ⟨h1, h2⟩ := List.nodup_cons.1 hn
    by_cases e : j = k
    · subst e
      have := sumL_out f j x l h1
      simp only [sumL, List.map_cons, List.sum_cons] at this ⊢
      rw [this]
      simp [upd0]
      omega
    · have hm : k ∈ l := by rcases List.mem_cons.1 h with h | h; exact absurd h.symm e; exact h
      have ih := sumL_upd f k x l h2 hm
      simp only [sumL, List.map_cons, List.sum_cons] at ih ⊢
      simp only [upd0, if_neg e] at ih ⊢
      omega
theorem boxSum_upd (N : Net0) (k : Int) (x : List D0) (hk : 1 ≤ k ∧ k ≤ N.nodes) : sumL (upd0 N.box k x) (keysTo N.nodes.toNat) + (N.box k).length = boxSum N + x.length :=
  sumL_upd _ _ _ _ (keysTo_nodup _) (mem_keysTo.2 ⟨hk.1, by omega⟩)
/-- How many there are: in flight, in boxes, lost. -/
structure Cnt (N : Net0) (all : Int) (d : Nat) : Prop where
  nodes : 1 ≤ N.nodes ∧ N.nodes ≤ 64
  low : 0 ≤ N.lost
  sum : all = N.way.length + (boxSum N : Int) + N.lost
  top : all ≤ d
  to : ∀ x ∈ N.way, 1 ≤ x.t ∧ x.t ≤ N.nodes
  ops : N.ops ≤ d
theorem Cnt.more {N : Net0} {all : Int} {d : Nat} (h : Cnt N all d) : Cnt N all (d + 1) := ⟨h.nodes, h.low, h.sum, by have := h.top; omega, h.to, by have := h.ops; omega⟩
theorem wrap_small {x : Int} (h : 0 ≤ x) (h2 : x ≤ 1000000) : wrap64 x = x := by unfold wrap64; omega
theorem Cnt.put {N : Net0} {all : Int} {d : Nat} (h : Cnt N all d) (hd : d < 1000) (x : D0) (hx : 1 ≤ x.t ∧ x.t ≤ N.nodes) (nx : Int) : Cnt (put0 { N with next := nx } x) (all + 1) (d + 1) := by
  have hs := h.sum
  have ht := h.top
  have hl := h.low
  unfold put0
  split
  · have e : wrap64 (N.lost + 1) = N.lost + 1 := wrap_small (by omega) (by omega)
    refine ⟨h.nodes, ?_, ?_, by omega, h.to, by have := h.ops; show N.ops ≤ _; omega⟩
    · show 0 ≤ wrap64 (N.lost + 1); omega
    · show all + 1 = N.way.length + (boxSum N : Int) + wrap64 (N.lost + 1); omega
  · refine ⟨h.nodes, hl, ?_, by omega, fun y hy => ?_, by have := h.ops; show N.ops ≤ _; omega⟩
    · show all + 1 = ((N.way ++ [x]).length : Int) + (boxSum N : Int) + N.lost
      rw [List.length_append, List.length_singleton]
      omega
    · rcases List.mem_append.1 hy with hy | hy
      · exact h.to y hy
      · rw [List.mem_singleton.1 hy]; exact hx
def addOf (o : Op0) (r : Net0 × Option D0 × Int) : Int := (if (o.kd = 0 ∨ o.kd = 3) ∧ r.2.2 = 0 then 1 else 0) - (match r.2.1 with | none => 0 | some _ => 1)
theorem Cnt.did {N : Net0} {all : Int} {d : Nat} (h : Cnt N all d) (hd : d < 1000) (o : Op0) (b : List Int) (hk : 0 ≤ o.kd ∧ o.kd ≤ 6) : Cnt (do0 N o b).1 (all + addOf o (do0 N o b)) (d + 1) := by
  have hs := h.sum
  have ht := h.top
  have hl := h.low
  have hk' : o.kd = 0 ∨ o.kd = 1 ∨ o.kd = 2 ∨ o.kd = 3 ∨ o.kd = 4 ∨ o.kd = 5 ∨ o.kd = 6 := by omega
  rcases hk' with hk | hk | hk | hk | hk | hk | hk
  · simp only [do0, hk, addOf, if_true]
    unfold send0
    split
    · simpa using h.more
    · rename_i h1
      split
      · simpa using h.more
      · have ht2 : 1 ≤ o.t ∧ o.t ≤ N.nodes := by
          have : nodeB N o.t = true := by
            cases hb : nodeB N o.t with
            | true => rfl
            | false => exact absurd (.inr (.inl hb)) h1
          simpa [nodeB] using this
        simpa using h.put hd ⟨o.f, o.t, u64s N.next, b, false⟩ ht2 (u64s N.next)
  · have hk0 : ¬ o.kd = 0 := by omega
    simp only [do0, hk, addOf]
    simp
    unfold deliver0
    cases ha : at0 N o.i with
    | none => simpa using h.more
    | some x =>
      have hi : 0 ≤ o.i ∧ o.i < N.way.length := by
        have := mt at0_none.2 (by rw [ha]; simp)
        omega
      have hx : x ∈ N.way := by
        unfold at0 at ha
        rw [if_neg (by omega)] at ha
        exact List.mem_of_getElem? ha
      have hxt := h.to x hx
      have hle : (N.way.eraseIdx o.i.toNat).length = N.way.length - 1 := by rw [List.length_eraseIdx]; simp; omega
      dsimp only
      split
      · have e : wrap64 (N.lost + 1) = N.lost + 1 := wrap_small (by omega) (by omega)
        refine ⟨h.nodes, ?_, ?_, by omega, fun y hy => h.to y (List.mem_of_mem_eraseIdx hy), by have := h.ops; show N.ops ≤ _; omega⟩
        · show 0 ≤ wrap64 (N.lost + 1); omega
        · show all = ((N.way.eraseIdx o.i.toNat).length : Int) + (boxSum N : Int) + wrap64 (N.lost + 1)
          omega
      · refine ⟨h.nodes, hl, ?_, by omega, fun y hy => h.to y (List.mem_of_mem_eraseIdx hy), by have := h.ops; show N.ops + 1 ≤ _; omega⟩
        have hu := boxSum_upd N x.t (N.box x.t ++ [x]) hxt
        rw [List.length_append, List.length_singleton] at hu
        show all = ((N.way.eraseIdx o.i.toNat).length : Int) + (sumL (upd0 N.box x.t (N.box x.t ++ [x])) (keysTo N.nodes.toNat) : Int) + N.lost
        omega
  · simp only [do0, hk, addOf]
    simp
    unfold drop0
    cases ha : at0 N o.i with
    | none => simpa using h.more
    | some x =>
      have hi : 0 ≤ o.i ∧ o.i < N.way.length := by
        have := mt at0_none.2 (by rw [ha]; simp)
        omega
      have hle : (N.way.eraseIdx o.i.toNat).length = N.way.length - 1 := by rw [List.length_eraseIdx]; simp; omega
      have e : wrap64 (N.lost + 1) = N.lost + 1 := wrap_small (by omega) (by omega)
      refine ⟨h.nodes, ?_, ?_, by omega, fun y hy => h.to y (List.mem_of_mem_eraseIdx hy), by have := h.ops; show N.ops ≤ _; omega⟩
      · show 0 ≤ wrap64 (N.lost + 1); omega
      · show all = ((N.way.eraseIdx o.i.toNat).length : Int) + (boxSum N : Int) + wrap64 (N.lost + 1)
        omega
  · simp only [do0, hk, addOf]
    simp
    unfold twin0
    cases ha : at0 N o.i with
    | none => simpa using h.more
    | some x =>
      have hi : 0 ≤ o.i ∧ o.i < N.way.length := by
        have := mt at0_none.2 (by rw [ha]; simp)
        omega
      have hx : x ∈ N.way := by
        unfold at0 at ha
        rw [if_neg (by omega)] at ha
        exact List.mem_of_getElem? ha
      simpa using h.put hd x (h.to x hx) N.next
  · simp only [do0, hk, addOf]
    simp
    unfold spoil0
    cases ha : at0 N o.i with
    | none => simpa using h.more
    | some x =>
      have hi : 0 ≤ o.i ∧ o.i < N.way.length := by
        have := mt at0_none.2 (by rw [ha]; simp)
        omega
      have hx : x ∈ N.way := by
        unfold at0 at ha
        rw [if_neg (by omega)] at ha
        exact List.mem_of_getElem? ha
      dsimp only
      split
      · simpa using h.more
      · split
        · simpa using h.more
        · refine ⟨h.nodes, hl, ?_, by omega, fun y hy => ?_, by have := h.ops; show N.ops ≤ _; omega⟩
          · show all = ((N.way.set _ _).length : Int) + (boxSum N : Int) + N.lost
            rw [List.length_set]
            exact hs
          · rcases List.mem_or_eq_of_mem_set hy with hy | rfl
            · exact h.to y hy
            · exact h.to x hx
  · simp only [do0, hk, addOf]
    simp
    unfold take0
    split
    · simpa using h.more
    · rename_i hb
      split
      · simpa using h.more
      · rename_i x r hbx
        have hkk : 1 ≤ o.f ∧ o.f ≤ N.nodes := by
          have : nodeB N o.f = true := by simpa using hb
          simpa [nodeB] using this
        have hu := boxSum_upd N o.f r hkk
        rw [hbx, List.length_cons] at hu
        refine ⟨h.nodes, hl, ?_, ?_, h.to, by have := h.ops; show N.ops + 1 ≤ _; omega⟩
        · show all + -1 = (N.way.length : Int) + (sumL (upd0 N.box o.f r) (keysTo N.nodes.toNat) : Int) + N.lost
          omega
        · show all + -1 ≤ _
          omega
  · simp only [do0, hk, addOf]
    simp
    unfold wipe0
    split
    · simpa using h.more
    · rename_i hb
      have hkk : 1 ≤ o.f ∧ o.f ≤ N.nodes := by
        have : nodeB N o.f = true := by simpa using hb
        simpa [nodeB] using this
      have hu := boxSum_upd N o.f [] hkk
      rw [List.length_nil] at hu
      have e : wrap64 (N.lost + (N.box o.f).length) = N.lost + (N.box o.f).length := wrap_small (by omega) (by omega)
      refine ⟨h.nodes, ?_, ?_, by omega, h.to, by have := h.ops; show N.ops ≤ _; omega⟩
      · show 0 ≤ wrap64 (N.lost + (N.box o.f).length); omega
      · show all = (N.way.length : Int) + (sumL (upd0 N.box o.f []) (keysTo N.nodes.toNat) : Int) + wrap64 (N.lost + (N.box o.f).length)
        omega
end Go.Proofs.Ytehgneiiajpgpaa
