/- dgram: blocks that lie apart. -/
import Derived.WalkKit
import Derived.Maps.OwnSet
import Derived.Maps.Views
namespace Go.Proofs.Ytehgneiiajpgpaa
open Go.RowKit
set_option linter.all false

abbrev Item := Nat × Obj
/-- These blocks hold these objects, and no two are one. -/
def Sep (w : World) (l : List Item) : Prop := (l.map (·.1)).Nodup ∧ ∀ x ∈ l, w.heap[x.1]? = some x.2
/-- w' is w but for the blocks ks, and new ones. -/
structure Only (w w' : World) (ks : List Nat) : Prop where
  os : w'.os = w.os
  tape : w'.tape = w.tape
  output : w'.output = w.output
  size : w.heap.size ≤ w'.heap.size
  block : ∀ k, k < w.heap.size → k ∉ ks → w'.heap[k]? = w.heap[k]?
theorem Only.refl (w : World) (ks : List Nat) : Only w w ks := ⟨rfl, rfl, rfl, Nat.le_refl _, fun _ _ _ => rfl⟩
theorem Only.trans {w w1 w2 : World} {ks ks2 : List Nat} (h : Only w w1 ks) (h2 : Only w1 w2 ks2) (hs : ∀ k ∈ ks2, k ∈ ks ∨ w.heap.size ≤ k) : Only w w2 ks :=
  ⟨h2.os.trans h.os, h2.tape.trans h.tape, h2.output.trans h.output, Nat.le_trans h.size h2.size, fun k hk hn => by
    rw [h2.block k (Nat.lt_of_lt_of_le hk h.size) (fun hm => by
      rcases hs k hm with h' | h'
      · exact hn h'
      · omega), h.block k hk hn]⟩
theorem Only.weaken {w w' : World} {ks ks2 : List Nat} (h : Only w w' ks) (hs : ∀ k ∈ ks, k ∈ ks2 ∨ w.heap.size ≤ k) : Only w w' ks2 :=
  ⟨h.os, h.tape, h.output, h.size, fun k hk hn => h.block k hk (fun hm => by
    rcases hs k hm with h' | h'
    · exact hn h'
    · omega)⟩
theorem Only.grown {w w' : World} {ks : List Nat} {row : Option Nat} (hg : w.grownBy w' row) (hr : ∀ k, row = some k → k ∈ ks) : Only w w' ks :=
  ⟨hg.os, hg.tape, hg.output, hg.size, fun k hk hn => hg.block k hk (fun e => hn (hr k e.symm))⟩
theorem Only.below {w w' : World} {ks : List Nat} {B : Nat} (h : Only w w' ks) (hs : ∀ k ∈ ks, B ≤ k) (hB : B ≤ w.heap.size) : Below B w w' :=
  ⟨h.os, h.tape, h.output, h.size, fun k hk => h.block k (by omega) (fun hm => by have := hs k hm; omega)⟩
theorem Sep.perm {w : World} {l l' : List Item} (h : Sep w l) (hp : l.Perm l') : Sep w l' :=
  ⟨(hp.map _).nodup_iff.1 h.1, fun x hx => h.2 x (hp.mem_iff.2 hx)⟩
theorem Sep.nil (w : World) : Sep w [] := ⟨List.nodup_nil, fun _ h => by cases h⟩
theorem Sep.tail {w : World} {x : Item} {l : List Item} (h : Sep w (x :: l)) : Sep w l :=
  ⟨(List.nodup_cons.1 h.1).2, fun y hy => h.2 y (List.mem_cons_of_mem _ hy)⟩
theorem Sep.right {w : World} {l l' : List Item} (h : Sep w (l ++ l')) : Sep w l' := by
  refine ⟨?_, fun y hy => h.2 y (List.mem_append_right _ hy)⟩
  have := h.1
  rw [List.map_append] at this
  exact (List.nodup_append.1 this).2.1
theorem Sep.left {w : World} {l l' : List Item} (h : Sep w (l ++ l')) : Sep w l := by
  refine ⟨?_, fun y hy => h.2 y (List.mem_append_left _ hy)⟩
  have := h.1
  rw [List.map_append] at this
  exact (List.nodup_append.1 this).1
theorem Sep.head {w : World} {x : Item} {l : List Item} (h : Sep w (x :: l)) : w.heap[x.1]? = some x.2 := h.2 x List.mem_cons_self
theorem Sep.notin {w : World} {x : Item} {l : List Item} (h : Sep w (x :: l)) : x.1 ∉ l.map (·.1) := (List.nodup_cons.1 h.1).1
theorem Sep.lt {w : World} {l : List Item} (h : Sep w l) : ∀ k ∈ l.map (·.1), k < w.heap.size := by
  intro k hk
  obtain ⟨x, hx, rfl⟩ := List.mem_map.1 hk
  exact (Array.getElem?_eq_some_iff.1 (h.2 x hx)).1
theorem Sep.only {w w' : World} {l : List Item} {ks : List Nat} (h : Sep w l) (ho : Only w w' ks) (hd : ∀ k ∈ l.map (·.1), k ∉ ks) : Sep w' l :=
  ⟨h.1, fun x hx => by rw [ho.block x.1 (h.lt _ (List.mem_map_of_mem hx)) (hd _ (List.mem_map_of_mem hx))]; exact h.2 x hx⟩
theorem Sep.put {w w' : World} {g : Nat} {o o' : Obj} {l : List Item} (h : Sep w ((g, o) :: l)) (ho : Only w w' [g]) (hg : w'.heap[g]? = some o') : Sep w' ((g, o') :: l) := by
  refine ⟨h.1, fun x hx => ?_⟩
  rcases List.mem_cons.1 hx with rfl | hx
  · exact hg
  · exact (h.tail.only ho (fun k hk => by
      intro hm
      obtain rfl := List.mem_singleton.1 hm
      exact h.notin hk)).2 x hx
theorem Only.alloc (w : World) (o : Obj) (ks : List Nat) : Only w (w.alloc o) ks := Only.grown (World.grownBy_alloc w o none) (fun _ h => by cases h)
theorem Sep.alloc {w : World} {l : List Item} (h : Sep w l) (o : Obj) : Sep (w.alloc o) ((w.heap.size, o) :: l) := by
  have h' : Sep (w.alloc o) l := h.only (Only.alloc w o []) (fun _ _ => by simp)
  refine ⟨List.nodup_cons.2 ⟨fun hm => ?_, h'.1⟩, fun x hx => ?_⟩
  · have := h.lt _ hm
    simp at this
  · rcases List.mem_cons.1 hx with rfl | hx
    · exact heap_alloc_new w o
    · exact h'.2 x hx
/-- A new block joins: it was none of those, and is there now. -/
theorem Sep.join {w : World} {l : List Item} (h : Sep w l) (g : Nat) (o : Obj) (hg : w.heap[g]? = some o) (hn : g ∉ l.map (·.1)) : Sep w ((g, o) :: l) :=
  ⟨List.nodup_cons.2 ⟨hn, h.1⟩, fun x hx => by
    rcases List.mem_cons.1 hx with rfl | hx
    · exact hg
    · exact h.2 x hx⟩
end Go.Proofs.Ytehgneiiajpgpaa
