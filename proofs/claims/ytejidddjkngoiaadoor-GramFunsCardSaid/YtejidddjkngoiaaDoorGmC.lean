/- gram: blocks, bytes, tokens and trees as they lie. gram: rows of trees of a call's own; copies of rows and of bytes. gram: the parser in memory; kind, is, have, want, fail, sink. -/
import Derived.Test.YtejidddjkngoiaaDoorGmS
import Derived.Test.YtejidddjkngoiaaDoorChecked
import Derived.WalkKit
import Derived.ArgAppend
import Derived.Maps.AppendAt
import Derived.Maps.OwnSet
import Derived.Lib.FrozenHead2
import Derived.Lib.OthersKept
import Derived.BigQuiet
import Derived.Deep.QuietTactic
import Derived.WalkLawsBesides
import Derived.WalkSpells
import Derived.Outline
namespace Go.Proofs.YtejidddjkngoiaaDoor
open Go.RowKit
set_option linter.all false

structure Aside0 (p : Prop) : Prop where
  out : p
/-- w' is w but for the blocks ks, and new ones. -/
structure Only (w w' : World) (ks : List Nat) : Prop where
  os : w'.os = w.os
  tape : w'.tape = w.tape
  output : w'.output = w.output
  size : w.heap.size ≤ w'.heap.size
  block : ∀ k, k < w.heap.size → k ∉ ks → w'.heap[k]? = w.heap[k]?
theorem Only.refl (w : World) (ks : List Nat) : Only w w ks := ⟨rfl, rfl, rfl, Nat.le_refl _, fun _ _ _ => rfl⟩
theorem Only.trans {w w1 w2 : World} {ks ks2 : List Nat} (h : Only w w1 ks) (h2 : Only w1 w2 ks2) (hs : ∀ k ∈ ks2, k ∈ ks ∨ w.heap.size ≤ k) : Only w w2 ks :=
  ⟨h2.os.trans h.os, h2.tape.trans h.tape, h2.output.trans h.output, Nat.le_trans h.size h2.size, fun k hk hn => by
    rw [h2.block k (Nat.lt_of_lt_of_le hk h.size) (fun hm => by
      rcases hs k hm with h' | h'
      · exact hn h'
      · omega), h.block k hk hn]⟩
theorem Only.weaken {w w' : World} {ks ks2 : List Nat} (h : Only w w' ks) (hs : ∀ k ∈ ks, k ∈ ks2 ∨ w.heap.size ≤ k) : Only w w' ks2 :=
  ⟨h.os, h.tape, h.output, h.size, fun k hk hn => h.block k hk (fun hm => by
    rcases hs k hm with h' | h'
    · exact hn h'
    · omega)⟩
theorem Only.grown {w w' : World} {ks : List Nat} {row : Option Nat} (hg : w.grownBy w' row) (hr : ∀ k, row = some k → k ∈ ks) : Only w w' ks :=
  ⟨hg.os, hg.tape, hg.output, hg.size, fun k hk hn => hg.block k hk (fun e => hn (hr k e.symm))⟩
theorem Only.below {w w' : World} {ks : List Nat} {B : Nat} (h : Only w w' ks) (hs : ∀ k ∈ ks, B ≤ k) (hB : B ≤ w.heap.size) : Below B w w' :=
  ⟨h.os, h.tape, h.output, h.size, fun k hk => h.block k (by omega) (fun hm => by have := hs k hm; omega)⟩
theorem Only.alloc (w : World) (o : Obj) (ks : List Nat) : Only w (w.alloc o) ks := Only.grown (World.grownBy_alloc w o none) (fun _ h => by cases h)
theorem Only.drew (w : World) (ks : List Nat) : Only w w.drew ks := ⟨rfl, rfl, rfl, Nat.le_refl _, fun _ _ _ => rfl⟩
theorem Only.drewQ (w : World) (n : Nat) (ks : List Nat) : Only w (w.drewN n) ks := ⟨rfl, rfl, rfl, Nat.le_refl _, fun _ _ _ => rfl⟩
theorem Only.setRow (w : World) (g : Nat) (cs : Array Value) : Only w (w.setRow g cs) [g] :=
  ⟨rfl, rfl, rfl, by simp [World.setRow], fun k _ hn => setRow_other w g k _ (fun e => hn (by simp [e]))⟩
theorem Only.setCell (w : World) (a : Addr) (v : Value) : Only w (w.setCell a v) [a.block] :=
  ⟨rfl, rfl, rfl, by simp [World.setCell], fun k _ hn => by
    have : k ≠ a.block := fun e => hn (by simp [e])
    simp [World.setCell, Array.getElem?_modify, Ne.symm this]⟩
theorem Only.allocs {w W : World} {ks : List Nat} (h : Only w W ks) (o : Obj) : Only w (W.alloc o) ks := h.trans (Only.alloc W o ks) (fun _ h => .inl h)
theorem Only.drews {w W : World} {ks : List Nat} (h : Only w W ks) : Only w W.drew ks := h.trans (Only.drew W ks) (fun _ h => .inl h)
theorem Only.drewsQ {w W : World} {ks : List Nat} (h : Only w W ks) (n : Nat) : Only w (W.drewN n) ks := h.trans (Only.drewQ W n ks) (fun _ h => .inl h)
theorem Only.setCells {w W : World} {ks : List Nat} (h : Only w W ks) (a : Addr) (ha : a.block ∈ ks) (v : Value) : Only w (W.setCell a v) ks := h.trans (Only.setCell W a v) (fun k hk => .inl (by rw [List.mem_singleton.1 hk]; exact ha))
theorem Only.setNew {w W : World} {ks : List Nat} (h : Only w W ks) (a : Addr) (ha : w.heap.size ≤ a.block) (v : Value) : Only w (W.setCell a v) ks := h.trans (Only.setCell W a v) (fun k hk => .inr (by rw [List.mem_singleton.1 hk]; exact ha))
theorem heap_setCell {w : World} {g : Nat} {cs : Array Value} {t : TypeId} (h : w.heap[g]? = some (.cells cs t (0, 0))) (o : Nat) (v : Value) : (w.setCell ⟨g, o, none⟩ v).heap[g]? = some (.cells (cs.setIfInBounds o v) t (0, 0)) := by
  rw [setCell_eq_setRow w g o cs t (0, 0) v h]
  exact setRow_heap w g cs _ t _ h
theorem size_alloc1 (w : World) (o : Obj) : (w.alloc o).heap.size = w.heap.size + 1 := by simp
theorem blk3 {w : World} {g : Nat} {t : TypeId} {v0 v1 v2 : Value} (h : w.heap[g]? = some (.cells #[v0, v1, v2] t (0, 0))) :
    w.cell? ⟨g, 0, none⟩ = some v0 ∧ w.cell? ⟨g, 1, none⟩ = some v1 ∧ w.cell? ⟨g, 2, none⟩ = some v2 ∧ w.frozen? ⟨g, 0, none⟩ = false ∧ w.frozen? ⟨g, 1, none⟩ = false ∧ w.frozen? ⟨g, 2, none⟩ = false :=
  ⟨by rw [Lib.cell_of_heap h]; rfl, by rw [Lib.cell_of_heap h]; rfl, by rw [Lib.cell_of_heap h]; rfl, Lib.frozen_of_heap h 0, Lib.frozen_of_heap h 1, Lib.frozen_of_heap h 2⟩
theorem blk5 {w : World} {g : Nat} {t : TypeId} {v0 v1 v2 v3 v4 : Value} (h : w.heap[g]? = some (.cells #[v0, v1, v2, v3, v4] t (0, 0))) :
    w.cell? ⟨g, 0, none⟩ = some v0 ∧ w.cell? ⟨g, 1, none⟩ = some v1 ∧ w.cell? ⟨g, 2, none⟩ = some v2 ∧ w.cell? ⟨g, 3, none⟩ = some v3 ∧ w.cell? ⟨g, 4, none⟩ = some v4 ∧ w.frozen? ⟨g, 0, none⟩ = false ∧ w.frozen? ⟨g, 1, none⟩ = false ∧ w.frozen? ⟨g, 2, none⟩ = false ∧ w.frozen? ⟨g, 3, none⟩ = false ∧ w.frozen? ⟨g, 4, none⟩ = false :=
  ⟨by rw [Lib.cell_of_heap h]; rfl, by rw [Lib.cell_of_heap h]; rfl, by rw [Lib.cell_of_heap h]; rfl, by rw [Lib.cell_of_heap h]; rfl, by rw [Lib.cell_of_heap h]; rfl, Lib.frozen_of_heap h 0, Lib.frozen_of_heap h 1, Lib.frozen_of_heap h 2, Lib.frozen_of_heap h 3, Lib.frozen_of_heap h 4⟩
theorem set5_heap {w : World} {b : Nat} {t : TypeId} {a0 a1 a2 a3 a4 : Value} (h : w.heap[b]? = some (.cells #[a0, a1, a2, a3, a4] t (0, 0))) (v0 v1 v2 v3 v4 : Value) :
    (((((w.setCell ⟨b, 0, none⟩ v0).setCell ⟨b, 1, none⟩ v1).setCell ⟨b, 2, none⟩ v2).setCell ⟨b, 3, none⟩ v3).setCell ⟨b, 4, none⟩ v4).heap[b]? = some (.cells #[v0, v1, v2, v3, v4] t (0, 0)) :=
  heap_setCell (heap_setCell (heap_setCell (heap_setCell (heap_setCell h 0 v0) 1 v1) 2 v2) 3 v3) 4 v4
theorem Only.set5 (w : World) (b : Nat) (v0 v1 v2 v3 v4 : Value) (ks : List Nat) (hb : b ∈ ks) : Only w (((((w.setCell ⟨b, 0, none⟩ v0).setCell ⟨b, 1, none⟩ v1).setCell ⟨b, 2, none⟩ v2).setCell ⟨b, 3, none⟩ v3).setCell ⟨b, 4, none⟩ v4) ks :=
  (((((Only.refl w ks).setCells _ hb _).setCells _ hb _).setCells _ hb _).setCells _ hb _).setCells _ hb _
/-! ### Bytes. -/
def bl (v : Value) : List Nat := match v.ownBlock with | some b => [b] | none => []
theorem own_bl {W : World} {B : Nat} {e : TypeId} {sz : Nat} {v : Value} {n : Nat} {xs : List Value} (h : W.ownsRow B e sz v n xs) : ∀ b ∈ bl v, B ≤ b ∧ b < W.heap.size := by
  intro b hb
  rcases h.2 with ⟨rfl, _⟩ | ⟨g, cap, cur, rfl, h1, h2, _⟩
  · simp [bl, Value.ownBlock] at hb
  · simp [bl, Value.ownBlock] at hb
    subst hb
    exact ⟨h1, (Array.getElem?_eq_some_iff.1 h2).1⟩
theorem own_keep {W W' : World} {B : Nat} {e : TypeId} {sz : Nat} {v : Value} {n : Nat} {xs : List Value} {ks : List Nat} (h : W.ownsRow B e sz v n xs) (ho : Only W W' ks) (hk : ∀ b ∈ bl v, b ∉ ks) : W'.ownsRow B e sz v n xs := by
  refine ⟨h.1, ?_⟩
  rcases h.2 with hn | ⟨g, cap, cur, rfl, h1, h2, h3⟩
  · exact .inl hn
  · exact .inr ⟨g, cap, cur, rfl, h1, (ho.block g (Array.getElem?_eq_some_iff.1 h2).1 (hk g (by simp [bl, Value.ownBlock]))).trans h2, h3⟩
theorem own_shape {w : World} {B : Nat} {e : TypeId} {sz : Nat} {v : Value} {n : Nat} {xs : List Value} (h : w.ownsRow B e sz v n xs) : ∃ A c, v = .slice A n c := by
  rcases h.2 with ⟨rfl, rfl⟩ | ⟨g, cap, cur, rfl, _⟩
  · exact ⟨_, _, rfl⟩
  · exact ⟨_, _, rfl⟩
theorem own_same {w w' : World} {B : Nat} {e : TypeId} {sz : Nat} {v : Value} {n : Nat} {xs : List Value} (h : w.ownsRow B e sz v n xs) (hk : ∀ k ∈ bl v, w'.heap[k]? = w.heap[k]?) : w'.ownsRow B e sz v n xs := by
  refine ⟨h.1, ?_⟩
  rcases h.2 with hn | ⟨g, cap, cur, rfl, h1, h2, h3⟩
  · exact .inl hn
  · exact .inr ⟨g, cap, cur, rfl, h1, (hk g (by simp [bl, Value.ownBlock])).trans h2, h3⟩
theorem own_zero {w : World} {B : Nat} {e : TypeId} {sz : Nat} {v : Value} {n : Nat} {xs : List Value} (h : w.ownsRow B e sz v n xs) : w.ownsRow 0 e sz v n xs := by
  refine ⟨h.1, ?_⟩
  rcases h.2 with hn | ⟨g, cap, cur, rfl, h1, h2, h3⟩
  · exact .inl hn
  · exact .inr ⟨g, cap, cur, rfl, Nat.zero_le _, h2, h3⟩
/-- A row of bytes of somebody's own. -/
def BytesIn (w : World) (P : Nat → Prop) (v : Value) (b : List Int) : Prop := w.ownsRow 0 5 1 v b.length (b.map (Value.int .u8)) ∧ ∀ k ∈ bl v, P k
theorem BytesIn.move {w w' : World} {P Q : Nat → Prop} {v : Value} {b : List Int} (h : BytesIn w P v b) (hk : ∀ k, k < w.heap.size → P k → w'.heap[k]? = w.heap[k]? ∧ Q k) : BytesIn w' Q v b :=
  ⟨own_same h.1 (fun k hm => (hk k (own_bl h.1 k hm).2 (h.2 k hm)).1), fun k hm => (hk k (own_bl h.1 k hm).2 (h.2 k hm)).2⟩
theorem BytesIn.nil (w : World) (P : Nat → Prop) : BytesIn w P (.slice none 0 0) [] := ⟨World.ownsRow_nil w _ _ 1, fun k hm => by simp [bl, Value.ownBlock] at hm⟩
def BytesAt (w : World) (v : Value) (b : List Int) : Prop :=
  ∃ A c, v = .slice A b.length c ∧ (A = none → b = []) ∧ ∀ ad, A = some ad → ∀ j x, b[j]? = some x → w.cell? (ad.add j) = some (.int .u8 x)
def BytesRd (w : World) (P : Nat → Prop) (v : Value) (b : List Int) : Prop := BytesAt w v b ∧ ∀ a n c, v = .slice (some a) n c → b ≠ [] → P a.block
theorem BytesRd.move {w w' : World} {P Q : Nat → Prop} {v : Value} {b : List Int} (h : BytesRd w P v b) (hk : ∀ k, k < w.heap.size → P k → w'.heap[k]? = w.heap[k]? ∧ Q k) : BytesRd w' Q v b := by
  obtain ⟨⟨A, c, h1, h2, h3⟩, hP⟩ := h
  have hbl : ∀ ad, A = some ad → ∀ j x, b[j]? = some x → ad.block < w.heap.size ∧ P ad.block := fun ad ha j x hx => by
    have hc := h3 ad ha j x hx
    have e : (ad.add j).block = ad.block := by unfold Addr.add; split <;> rfl
    have hb : b ≠ [] := fun e => by simp [e] at hx
    have hlt := World.block_lt_of_cell? _ _ hc
    rw [e] at hlt
    exact ⟨hlt, hP ad _ _ (by rw [h1, ha]) hb⟩
  refine ⟨⟨A, c, h1, h2, fun ad ha j x hx => ?_⟩, fun a n c' hv hb => ?_⟩
  · have hc := h3 ad ha j x hx
    have e : (ad.add j).block = ad.block := by unfold Addr.add; split <;> rfl
    obtain ⟨h4, h5⟩ := hbl ad ha j x hx
    exact (World.cell?_of_block (by rw [e]; exact (hk _ h4 h5).1)).trans hc
  · cases b with
    | nil => exact absurd rfl hb
    | cons x l =>
      rw [hv] at h1
      simp only [Value.slice.injEq] at h1
      obtain ⟨h4, h5⟩ := hbl a h1.1.symm 0 x rfl
      exact (hk _ h4 h5).2
theorem BytesRd.nil (w : World) (P : Nat → Prop) : BytesRd w P (.slice none 0 0) [] := ⟨⟨none, 0, rfl, fun _ => rfl, fun _ h => by cases h⟩, fun _ _ _ h _ => by cases h⟩
/-! ### Trees. -/
structure V5 where
  a : Value
  b : Value
  c : Value
  d : Value
  e : Value
abbrev V5.agg (v : V5) : Value := .agg #[v.a, v.b, v.c, v.d, v.e]
def cells5 (v : V5) : List Value := [v.a, v.b, v.c, v.d, v.e]
def flat5 (l : List V5) : List Value := l.flatMap cells5
theorem flat5_len : ∀ l : List V5, (flat5 l).length = l.length * 5
  | [] => rfl
  | d :: l => by
    have := flat5_len l
    simp only [flat5, List.flatMap_cons, List.length_append, List.length_cons] at this ⊢
    rw [this, show (cells5 d).length = 5 from rfl]
    omega
theorem flat5_app (a b : List V5) : flat5 (a ++ b) = flat5 a ++ flat5 b := by simp [flat5]
theorem flat5_at : ∀ (l : List V5) (i : Nat) (x : V5), l[i]? = some x → ∀ j u, (cells5 x)[j]? = some u → (flat5 l)[i * 5 + j]? = some u
  | [], _, _, h, _, _, _ => by simp at h
  | x :: l, 0, d, h, j, u, hj => by
    obtain rfl : x = d := by simpa using h
    have hl : j < (cells5 x).length := (List.getElem?_eq_some_iff.1 hj).1
    simp only [flat5, List.flatMap_cons, Nat.zero_mul, Nat.zero_add]
    rw [List.getElem?_append_left hl]
    exact hj
  | x :: l, i + 1, d, h, j, u, hj => by
    have ih := flat5_at l i d (by simpa using h) j u hj
    simp only [flat5, List.flatMap_cons] at ih ⊢
    rw [List.getElem?_append_right (by rw [show (cells5 x).length = 5 from rfl]; omega), show (i + 1) * 5 + j - (cells5 x).length = i * 5 + j by rw [show (cells5 x).length = 5 from rfl]; omega]
    exact ih
mutual
/-- A tree lies at these five values, its rows somebody's own, each in a block of P that is none of those within. -/
def TV (w : World) (P : Nat → Prop) : GTree → V5 → Prop
  | .node kd s n b l, v => v.a = .int .i64 kd ∧ v.b = .string s ∧ v.c = .int .i64 n ∧ BytesIn w P v.d b ∧ ∃ vs : List V5, w.ownsRow 0 28 5 v.e l.length (flat5 vs) ∧ (∀ k ∈ bl v.e, P k) ∧ TZ w (fun k => P k ∧ k ∉ bl v.e) l vs
/-- Trees, each at its five values. -/
def TZ (w : World) (P : Nat → Prop) : List GTree → List V5 → Prop
  | [], vs => vs = []
  | t :: r, vs => ∃ u us, vs = u :: us ∧ TV w P t u ∧ TZ w P r us
end
theorem TZ_len {w : World} {P : Nat → Prop} : ∀ (l : List GTree) (vs : List V5), TZ w P l vs → vs.length = l.length
  | [], vs, h => by unfold TZ at h; subst h; rfl
  | t :: r, vs, h => by
    unfold TZ at h
    obtain ⟨u, us, rfl, _, h2⟩ := h
    simp [TZ_len r us h2]
theorem TZ_get {w : World} {P : Nat → Prop} : ∀ (l : List GTree) (vs : List V5) (i : Nat) (t : GTree), TZ w P l vs → l[i]? = some t → ∃ u, vs[i]? = some u ∧ TV w P t u
  | [], _, _, _, _, h => by simp at h
  | x :: l, vs, 0, t, hl, h => by
    obtain rfl : x = t := by simpa using h
    unfold TZ at hl
    obtain ⟨u, us, rfl, h1, _⟩ := hl
    exact ⟨u, rfl, h1⟩
  | x :: l, vs, i + 1, t, hl, h => by
    unfold TZ at hl
    obtain ⟨u, us, rfl, _, h2⟩ := hl
    obtain ⟨u', h3, h4⟩ := TZ_get l us i t h2 (by simpa using h)
    exact ⟨u', by simpa using h3, h4⟩
theorem TZ_of {w : World} {P : Nat → Prop} : ∀ (l : List GTree) (vs : List V5), vs.length = l.length → (∀ (i : Nat) (t : GTree) (u : V5), l[i]? = some t → vs[i]? = some u → TV w P t u) → TZ w P l vs
  | [], vs, h, _ => by unfold TZ; exact List.eq_nil_of_length_eq_zero h
  | x :: l, [], h, _ => by simp at h
  | x :: l, u :: us, h, hk => by
    unfold TZ
    exact ⟨u, us, rfl, hk 0 x u rfl rfl, TZ_of l us (by simpa using h) (fun i t u' ht hu => hk (i + 1) t u' (by simpa using ht) (by simpa using hu))⟩
mutual
theorem TV_mv {w w' : World} : ∀ (t : GTree) (v : V5) (P Q : Nat → Prop), (∀ k, k < w.heap.size → P k → w'.heap[k]? = w.heap[k]? ∧ Q k) → TV w P t v → TV w' Q t v
  | .node kd s n b l, v, P, Q, hk, h => by
    unfold TV at h ⊢
    obtain ⟨h1, h2, h3, h4, vs, h5, h6, h7⟩ := h
    exact ⟨h1, h2, h3, h4.move hk, vs, own_same h5 (fun k hm => (hk k (own_bl h5 k hm).2 (h6 k hm)).1), fun k hm => (hk k (own_bl h5 k hm).2 (h6 k hm)).2, TZ_mv l vs _ _ (fun k hl hP => ⟨(hk k hl hP.1).1, (hk k hl hP.1).2, hP.2⟩) h7⟩
theorem TZ_mv {w w' : World} : ∀ (l : List GTree) (vs : List V5) (P Q : Nat → Prop), (∀ k, k < w.heap.size → P k → w'.heap[k]? = w.heap[k]? ∧ Q k) → TZ w P l vs → TZ w' Q l vs
  | [], vs, P, Q, hk, h => by unfold TZ at h ⊢; exact h
  | t :: r, vs, P, Q, hk, h => by
    unfold TZ at h ⊢
    obtain ⟨u, us, e, h1, h2⟩ := h
    exact ⟨u, us, e, TV_mv t u P Q hk h1, TZ_mv r us P Q hk h2⟩
end
theorem TV_move {w w' : World} {P Q : Nat → Prop} (hk : ∀ k, k < w.heap.size → P k → w'.heap[k]? = w.heap[k]? ∧ Q k) (t : GTree) (v : V5) (h : TV w P t v) : TV w' Q t v := TV_mv t v P Q hk h
/-- A slice of trees. -/
def RT (w : World) (P : Nat → Prop) (v : Value) (l : List GTree) : Prop := ∃ vs : List V5, w.ownsRow 0 28 5 v l.length (flat5 vs) ∧ (∀ k ∈ bl v, P k) ∧ TZ w (fun k => P k ∧ k ∉ bl v) l vs
theorem RT.move {w w' : World} {P Q : Nat → Prop} {v : Value} {l : List GTree} (h : RT w P v l) (hk : ∀ k, k < w.heap.size → P k → w'.heap[k]? = w.heap[k]? ∧ Q k) : RT w' Q v l := by
  obtain ⟨vs, h5, h6, h7⟩ := h
  exact ⟨vs, own_same h5 (fun k hm => (hk k (own_bl h5 k hm).2 (h6 k hm)).1), fun k hm => (hk k (own_bl h5 k hm).2 (h6 k hm)).2, TZ_mv l vs _ _ (fun k hl hP => ⟨(hk k hl hP.1).1, (hk k hl hP.1).2, hP.2⟩) h7⟩
theorem RT.nil (w : World) (P : Nat → Prop) : RT w P (.slice none 0 0) [] := ⟨[], World.ownsRow_nil w _ _ 5, fun k hm => by simp [bl, Value.ownBlock] at hm, by unfold TZ; rfl⟩
theorem RT.shape {w : World} {P : Nat → Prop} {v : Value} {l : List GTree} (h : RT w P v l) : ∃ A c, v = .slice A l.length c := by
  obtain ⟨vs, h5, _⟩ := h
  exact own_shape h5
theorem TV_node {w : World} {P : Nat → Prop} {kd : Int} {s : ByteArray} {n : Int} {b : List Int} {l : List GTree} {vb vl : Value} (hb : BytesIn w P vb b) (hl : RT w P vl l) : TV w P (.node kd s n b l) ⟨.int .i64 kd, .string s, .int .i64 n, vb, vl⟩ := by
  unfold TV
  exact ⟨rfl, rfl, rfl, hb, hl⟩
/-- The five values of each. -/
theorem RT.vals {w : World} {P : Nat → Prop} {v : Value} {l : List GTree} (h : RT w P v l) : ∃ vs : List V5, vs.length = l.length ∧ ∀ i t, l[i]? = some t → ∃ u, vs[i]? = some u ∧ TV w P t u ∧ ∃ g o, (∃ A c, v = .slice A l.length c ∧ A = some ⟨g, o, none⟩) ∧ P g ∧ ∀ j x, (cells5 u)[j]? = some x → w.cell? ⟨g, o + i * 5 + j, none⟩ = some x := by
  obtain ⟨vs, h5, h6, h7⟩ := h
  have hl := TZ_len l vs h7
  refine ⟨vs, hl, fun i t ht => ?_⟩
  obtain ⟨u, hu, htv⟩ := TZ_get l vs i t h7 ht
  refine ⟨u, hu, TV_move (fun k _ hP => ⟨rfl, hP.1⟩) t u htv, ?_⟩
  rcases h5.2 with ⟨_, h0⟩ | ⟨g, cap, cur, rfl, q1, q2, q3, q4, q5, q6⟩
  · have := (List.getElem?_eq_some_iff.1 ht).1
    omega
  · refine ⟨g, 0, ⟨_, cap, rfl, rfl⟩, h6 g (by simp [bl, Value.ownBlock]), fun j x hj => ?_⟩
    have hf := flat5_at vs i u hu j x hj
    have hlt := (List.getElem?_eq_some_iff.1 hf).1
    rw [flat5_len, hl] at hlt
    rw [← q6, List.getElem?_take, if_pos hlt] at hf
    rw [Lib.cell_of_heap q2, Nat.zero_add]
    simpa using hf
theorem tree_info : (Tryd.prog.info? 28).map (fun i => (i.zero, i.size, i.bytes)) = some (some (.agg #[(.int .i64 0), (.string ⟨#[]⟩), (.int .i64 0), (.slice none 0 0), (.slice none 0 0)]), 5, 80) := by kernel_rfl
theorem byte_info : (Tryd.prog.info? 5).map (fun i => (i.zero, i.size, i.bytes)) = some (some (.int .u8 0), 1, 1) := by kernel_rfl
theorem wpList_append_by {P : Program} {w : World} {ops : Array Oper} {rest : List Oper} {o : Oper} {a : Act} {Q : Exit → Act → World → Prop} (hgd : o.guard = none) (s x : Operand) (t tx : TypeId)
    (ho : o.op = .call { callee := .builtin .append, args := #[s, x], argTypes := #[t, tx] }) (vs vx : Value) (hs : a.eval s = vs) (hx : a.eval x = vx) (v' : Value) (w' : World)
    (hrun : (Builtin.append_ #[t, tx] o.type #[vs, vx]).run P w = .ok v' w') (h : wpList P ops Q rest (a.put o.dst v') w') : wpList P ops Q (o :: rest) a w := by
  refine wpList_plain hgd fun K hK => ?_
  unfold Oper.wp execOp
  simp only [ho, resolve, invoke, builtin, Sem.run_bind, Sem.run_pure, Result.andThen_ok, List.map_toArray, List.map_cons, List.map_nil, hs, hx, hrun]
  exact hK _ _ h
theorem TV.one {w : World} {P : Nat → Prop} {t : GTree} {u : V5} (h : TV w P t u) : ∀ x ∈ cells5 u, x.oneCell' = true := by
  obtain ⟨kd, s, n, b, l⟩ := t
  unfold TV at h
  obtain ⟨h1, h2, h3, ⟨hb, _⟩, vs, hl, _⟩ := h
  obtain ⟨A, c, h4⟩ := own_shape hb
  obtain ⟨A', c', h5⟩ := own_shape hl
  intro x hx
  simp only [cells5, List.mem_cons, List.not_mem_nil, or_false] at hx
  rcases hx with rfl | rfl | rfl | rfl | rfl
  · rw [h1]; rfl
  · rw [h2]; rfl
  · rw [h3]; rfl
  · rw [h4]; rfl
  · rw [h5]; rfl
/-- A row of the call's own (begun at B), its trees in none of its own block. -/
def OT (w : World) (B : Nat) (v : Value) (l : List GTree) : Prop :=
  ∃ vs : List V5, vs.length = l.length ∧ w.ownsRow B 28 5 v l.length (flat5 vs) ∧ ∀ (i : Nat) (t : GTree) (u : V5), l[i]? = some t → vs[i]? = some u → TV w (fun k => B ≤ k ∧ k ∉ bl v) t u
theorem OT.nil (w : World) (B : Nat) : OT w B (.slice none 0 0) [] := ⟨[], rfl, World.ownsRow_nil w _ _ 5, fun i t u h => by simp at h⟩
theorem OT.shape {w : World} {B : Nat} {v : Value} {l : List GTree} (h : OT w B v l) : ∃ A c, v = .slice A l.length c := by
  obtain ⟨vs, _, h2, _⟩ := h
  exact own_shape h2
theorem OT.bl {w : World} {B : Nat} {v : Value} {l : List GTree} (h : OT w B v l) : ∀ b ∈ bl v, B ≤ b ∧ b < w.heap.size := by
  obtain ⟨vs, _, h2, _⟩ := h
  exact own_bl h2
theorem OT.keep {w w' : World} {B : Nat} {v : Value} {l : List GTree} {ks : List Nat} (h : OT w B v l) (ho : Only w w' ks) (hk : ∀ k ∈ ks, k < B ∨ w.heap.size ≤ k) : OT w' B v l := by
  obtain ⟨vs, h1, h2, h3⟩ := h
  refine ⟨vs, h1, own_keep h2 ho (fun b hb hm => ?_), fun i t u ht hu => TV_move (fun k hk' hP => ⟨ho.block k hk' (fun hm => ?_), hP⟩) t u (h3 i t u ht hu)⟩
  · have := own_bl h2 b hb
    have := hk b hm
    omega
  · have := hP.1
    have := hk k hm
    omega
theorem row_rt {w : World} {B : Nat} {P : Nat → Prop} {v : Value} {l : List GTree} {vs : List V5} (h1 : vs.length = l.length) (h2 : w.ownsRow B 28 5 v l.length (flat5 vs)) (h3 : ∀ (i : Nat) (t : GTree) (u : V5), l[i]? = some t → vs[i]? = some u → TV w (fun k => P k ∧ k ∉ Go.Proofs.YtejidddjkngoiaaDoor.bl v) t u) (hP : ∀ b ∈ Go.Proofs.YtejidddjkngoiaaDoor.bl v, P b) : RT w P v l :=
  ⟨vs, own_zero h2, hP, TZ_of l vs h1 h3⟩
theorem OT.rt {w : World} {B : Nat} {v : Value} {l : List GTree} (h : OT w B v l) : RT w (fun k => B ≤ k) v l := by
  obtain ⟨vs, h1, h2, h3⟩ := h
  exact row_rt h1 h2 (fun i t u ht hu => h3 i t u ht hu) (fun b hb => (own_bl h2 b hb).1)
/-- append of trees that lie anywhere, cell by cell, to a row of the call's own. -/
theorem run_append_trees {w : World} {B : Nat} {v : Value} {l l2 : List GTree} {vs2 : List V5} (h : OT w B v l) (hB : B ≤ w.heap.size) (hn : l.length + l2.length ≤ 1000000) (ty : TypeId) (a : Addr) (c : Nat) (e2 : vs2.length = l2.length) (hc : ∀ j x, (flat5 vs2)[j]? = some x → w.cell? (a.add j) = some x)
    (h2 : ∀ (i : Nat) (t : GTree) (u : V5), l2[i]? = some t → vs2[i]? = some u → TV w (fun k => B ≤ k ∧ k ∉ Go.Proofs.YtejidddjkngoiaaDoor.bl v) t u) :
    ∃ A c' w', (Builtin.append_ #[26, 26] ty #[v, .slice (some a) l2.length c]).run Tryd.prog w = .ok (.slice A (l.length + l2.length) c') w' ∧ OT w' B (.slice A (l.length + l2.length) c') (l ++ l2) ∧ Only w w' (Go.Proofs.YtejidddjkngoiaaDoor.bl v) ∧ (∀ b ∈ Go.Proofs.YtejidddjkngoiaaDoor.bl (.slice A (l.length + l2.length) c'), b ∈ Go.Proofs.YtejidddjkngoiaaDoor.bl v ∨ w.heap.size ≤ b) := by
  obtain ⟨i0, hi, hz0, hz1, hz2⟩ := info_parts tree_info
  obtain ⟨vs, h1, hrow, htv⟩ := h
  have hml : 140737488355328 ≤ maxLen := by decide
  obtain ⟨v', w', hrun, r1, r2, _, r3⟩ := run_append_own_at (P := Tryd.prog) (w := w) B 26 ty 28 i0 _ 5 80 Tryd.underlying26 hi hz0 hz1 hz2 rfl (by decide) v l.length (flat5 vs) hrow a l2.length c (flat5 vs2) (by rw [flat5_len, e2]) hc (by
    intro u hu
    obtain ⟨x, hx, hu⟩ := List.mem_flatMap.1 hu
    obtain ⟨i, hi⟩ := List.mem_iff_getElem?.1 hx
    have hil : i < l2.length := by rw [← e2]; exact (List.getElem?_eq_some_iff.1 hi).1
    exact (h2 i _ x (List.getElem?_eq_getElem hil) hi).one u hu) (by omega) (by omega) hB
  obtain ⟨A, c', rfl⟩ := own_shape r1
  have ho : Only w w' (Go.Proofs.YtejidddjkngoiaaDoor.bl v) := Only.grown r2 (fun k hk => by unfold Go.Proofs.YtejidddjkngoiaaDoor.bl; rw [hk]; simp)
  have hnb : ∀ b ∈ Go.Proofs.YtejidddjkngoiaaDoor.bl (.slice A (l.length + l2.length) c'), b ∈ Go.Proofs.YtejidddjkngoiaaDoor.bl v ∨ w.heap.size ≤ b := by
    intro b hb
    rcases r3 with r3 | r3
    · left
      unfold Go.Proofs.YtejidddjkngoiaaDoor.bl at hb ⊢
      rw [r3] at hb
      exact hb
    · right
      unfold Go.Proofs.YtejidddjkngoiaaDoor.bl at hb
      rw [r3] at hb
      simp at hb
      omega
  have hmv : ∀ k, k < w.heap.size → (B ≤ k ∧ k ∉ Go.Proofs.YtejidddjkngoiaaDoor.bl v) → w'.heap[k]? = w.heap[k]? ∧ (B ≤ k ∧ k ∉ Go.Proofs.YtejidddjkngoiaaDoor.bl (.slice A (l.length + l2.length) c')) := fun k hk hP =>
    ⟨ho.block k hk hP.2, hP.1, fun hm => (hnb k hm).elim hP.2 (fun h => by omega)⟩
  refine ⟨A, c', w', hrun, ⟨vs ++ vs2, by simp [h1, e2], by rw [List.length_append, flat5_app]; exact r1, fun i t u ht hu => ?_⟩, ho, hnb⟩
  by_cases hil : i < l.length
  · rw [List.getElem?_append_left hil] at ht
    rw [List.getElem?_append_left (by omega)] at hu
    exact TV_move hmv t u (htv i t u ht hu)
  · rw [List.getElem?_append_right (by omega)] at ht
    rw [List.getElem?_append_right (by omega), h1] at hu
    exact TV_move hmv t u (h2 _ t u ht hu)
/-- append of one tree. -/
theorem run_append_tree {w : World} {B : Nat} {v : Value} {l : List GTree} {t : GTree} {u : V5} (h : OT w B v l) (hB : B ≤ w.heap.size) (hn : l.length + 1 ≤ 1000000) (ty : TypeId) (a : Addr) (c : Nat) (hc : ∀ j x, (cells5 u)[j]? = some x → w.cell? (a.add j) = some x) (ht : TV w (fun k => B ≤ k ∧ k ∉ Go.Proofs.YtejidddjkngoiaaDoor.bl v) t u) :
    ∃ A c' w', (Builtin.append_ #[26, 26] ty #[v, .slice (some a) 1 c]).run Tryd.prog w = .ok (.slice A (l.length + 1) c') w' ∧ OT w' B (.slice A (l.length + 1) c') (l ++ [t]) ∧ Only w w' (Go.Proofs.YtejidddjkngoiaaDoor.bl v) ∧ (∀ b ∈ Go.Proofs.YtejidddjkngoiaaDoor.bl (.slice A (l.length + 1) c'), b ∈ Go.Proofs.YtejidddjkngoiaaDoor.bl v ∨ w.heap.size ≤ b) :=
  run_append_trees (l2 := [t]) (vs2 := [u]) h hB hn ty a c rfl (fun j x hj => hc j x (by simpa [flat5] using hj)) (fun i t' u' h1 h2 => by
    have hi : i = 0 := by have := (List.getElem?_eq_some_iff.1 h1).1; simpa using this
    subst hi
    simp at h1 h2
    subst h1 h2
    exact ht)
/-- append of a row of trees. -/
theorem run_append_rt {w : World} {B : Nat} {v v2 : Value} {l l2 : List GTree} (h : OT w B v l) (hB : B ≤ w.heap.size) (hn : l.length + l2.length ≤ 1000000) (ty : TypeId) (h2 : RT w (fun k => B ≤ k ∧ k ∉ Go.Proofs.YtejidddjkngoiaaDoor.bl v) v2 l2) :
    ∃ A c' w', (Builtin.append_ #[26, 26] ty #[v, v2]).run Tryd.prog w = .ok (.slice A (l.length + l2.length) c') w' ∧ OT w' B (.slice A (l.length + l2.length) c') (l ++ l2) ∧ Only w w' (Go.Proofs.YtejidddjkngoiaaDoor.bl v) ∧ (∀ b ∈ Go.Proofs.YtejidddjkngoiaaDoor.bl (.slice A (l.length + l2.length) c'), b ∈ Go.Proofs.YtejidddjkngoiaaDoor.bl v ∨ w.heap.size ≤ b) := by
  obtain ⟨vs2, e2, hv⟩ := h2.vals
  obtain ⟨A2, c2, rfl⟩ := h2.shape
  cases A2 with
  | none =>
    have hl2 : l2 = [] := by
      cases l2 with
      | nil => rfl
      | cons x l =>
        obtain ⟨u, _, _, g, o, ⟨A, c, h1, h2⟩, _⟩ := hv 0 x rfl
        simp only [Value.slice.injEq] at h1
        rw [h2] at h1
        cases h1.1
    subst hl2
    obtain ⟨i0, hi, hz0, hz1, hz2⟩ := info_parts tree_info
    obtain ⟨A, c, rfl⟩ := h.shape
    have hc : l.length ≤ c := by
      obtain ⟨vs, _, q2, _⟩ := id h
      rcases q2.2 with ⟨hv, h0⟩ | ⟨g, cap, cur, hv, h1, h2, h3, h4, h5, h6⟩
      · omega
      · simp only [Value.slice.injEq] at hv; omega
    refine ⟨A, c, w, ?_, by simpa using h, Only.refl w _, fun b hb => .inl (by simpa [Go.Proofs.YtejidddjkngoiaaDoor.bl, Value.ownBlock] using hb)⟩
    cases A with
    | none => simp [Builtin.append_, run_underlying Tryd.underlying26, sizeOf, typeInfo, hi, Builtin.lenOf, Builtin.firstCells, hc, storeCells, Result.andThen]
    | some a => simp [Builtin.append_, run_underlying Tryd.underlying26, sizeOf, typeInfo, hi, Builtin.lenOf, Builtin.firstCells, hc, storeCells, Result.andThen]
  | some ad =>
    refine run_append_trees h hB hn ty ad c2 e2 (fun j x hj => ?_) (fun i t u ht hu => ?_)
    · have hjl := (List.getElem?_eq_some_iff.1 hj).1
      rw [flat5_len, e2] at hjl
      have hq : j / 5 < l2.length := by omega
      obtain ⟨u, hu, _, g, o, ⟨A, c, h1, h3⟩, _, hc⟩ := hv (j / 5) _ (List.getElem?_eq_getElem hq)
      simp only [Value.slice.injEq] at h1
      rw [h3] at h1
      obtain rfl := Option.some.inj h1.1
      rw [Addr.add_lit]
      have hr : j % 5 < (cells5 u).length := by rw [show (cells5 u).length = 5 from rfl]; omega
      have h5 := flat5_at vs2 (j / 5) u hu (j % 5) _ (List.getElem?_eq_getElem hr)
      rw [show j / 5 * 5 + j % 5 = j by omega, hj] at h5
      have h6 := hc (j % 5) _ (List.getElem?_eq_getElem hr)
      rw [show o + j / 5 * 5 + j % 5 = o + j by omega] at h6
      rw [h6]
      exact h5.symm
    · obtain ⟨u', hu', h3, _⟩ := hv i t ht
      rw [hu] at hu'
      obtain rfl := Option.some.inj hu'
      exact h3
/-- append of a row of trees to nil: a copy. -/
theorem run_copy_trees {w : World} {P : Nat → Prop} {v2 : Value} {l2 : List GTree} (hn : l2.length ≤ 1000000) (ty : TypeId) (h2 : RT w P v2 l2) :
    ∃ A c' w', (Builtin.append_ #[26, 26] ty #[.slice none 0 0, v2]).run Tryd.prog w = .ok (.slice A l2.length c') w' ∧ RT w' (fun k => P k ∨ w.heap.size ≤ k) (.slice A l2.length c') l2 ∧ Only w w' [] := by
  obtain ⟨i0, hi, hz0, hz1, hz2⟩ := info_parts tree_info
  obtain ⟨vs2, e2, hv⟩ := h2.vals
  obtain ⟨A2, c2, rfl⟩ := h2.shape
  have hml : 140737488355328 ≤ maxLen := by decide
  cases A2 with
  | none =>
    have hl2 : l2 = [] := by
      cases l2 with
      | nil => rfl
      | cons x l =>
        obtain ⟨u, _, _, g, o, ⟨A, c, h1, h2⟩, _⟩ := hv 0 x rfl
        simp only [Value.slice.injEq] at h1
        rw [h2] at h1
        cases h1.1
    subst hl2
    refine ⟨none, 0, w, ?_, RT.nil w _, Only.refl w _⟩
    simp [Builtin.append_, run_underlying Tryd.underlying26, sizeOf, typeInfo, hi, Builtin.lenOf, Builtin.firstCells, storeCells, Result.andThen]
  | some ad =>
    have hvc : ∀ j x, (flat5 vs2)[j]? = some x → w.cell? (ad.add j) = some x := fun j x hj => by
      have hjl := (List.getElem?_eq_some_iff.1 hj).1
      rw [flat5_len, e2] at hjl
      have hq : j / 5 < l2.length := by omega
      obtain ⟨u, hu, _, g, o, ⟨A, c, h1, h3⟩, _, hc⟩ := hv (j / 5) _ (List.getElem?_eq_getElem hq)
      simp only [Value.slice.injEq] at h1
      rw [h3] at h1
      obtain rfl := Option.some.inj h1.1
      rw [Addr.add_lit]
      have hr : j % 5 < (cells5 u).length := by rw [show (cells5 u).length = 5 from rfl]; omega
      have h5 := flat5_at vs2 (j / 5) u hu (j % 5) _ (List.getElem?_eq_getElem hr)
      rw [show j / 5 * 5 + j % 5 = j by omega, hj] at h5
      have h6 := hc (j % 5) _ (List.getElem?_eq_getElem hr)
      rw [show o + j / 5 * 5 + j % 5 = o + j by omega] at h6
      rw [h6]
      exact h5.symm
    have htv : ∀ (i : Nat) (t : GTree) (u : V5), l2[i]? = some t → vs2[i]? = some u → TV w P t u := fun i t u ht hu => by
      obtain ⟨u', hu', h3, _⟩ := hv i t ht
      rw [hu] at hu'
      obtain rfl := Option.some.inj hu'
      exact h3
    obtain ⟨v', w', hrun, r1, r2, _, r3⟩ := run_append_own_at (P := Tryd.prog) (w := w) w.heap.size 26 ty 28 i0 _ 5 80 Tryd.underlying26 hi hz0 hz1 hz2 rfl (by decide) (.slice none 0 0) 0 [] (World.ownsRow_nil w _ _ 5) ad l2.length c2 (flat5 vs2) (by rw [flat5_len, e2]) hvc (by
      intro u hu
      obtain ⟨x, hx, hu⟩ := List.mem_flatMap.1 hu
      obtain ⟨i, hi⟩ := List.mem_iff_getElem?.1 hx
      have hil : i < l2.length := by rw [← e2]; exact (List.getElem?_eq_some_iff.1 hi).1
      exact (htv i _ x (List.getElem?_eq_getElem hil) hi).one u hu) (by omega) (by omega) (Nat.le_refl _)
    rw [Nat.zero_add, List.nil_append] at r1
    obtain ⟨A, c', rfl⟩ := own_shape r1
    have ho : Only w w' [] := Only.grown r2 (fun k hk => by simp [Value.ownBlock] at hk)
    exact ⟨A, c', w', hrun, row_rt e2 r1 (fun i t u ht hu => TV_move (fun k hk hP => ⟨ho.block k hk (by simp), .inl hP, fun hm => by have := (own_bl r1 k hm).1; omega⟩) t u (htv i t u ht hu)) (fun b hb => .inr (own_bl r1 b hb).1), ho⟩
/-- append of bytes to nil: a copy. -/
theorem run_copy_bytes {w : World} {v : Value} {b : List Int} (hl : b.length ≤ 1000000000) (ty : TypeId) (h : BytesAt w v b) :
    ∃ A c w', (Builtin.append_ #[25, 25] ty #[.slice none 0 0, v]).run Tryd.prog w = .ok (.slice A b.length c) w' ∧ BytesIn w' (fun k => w.heap.size ≤ k) (.slice A b.length c) b ∧ Only w w' [] := by
  obtain ⟨i0, hi, hz0, hz1, hz2⟩ := info_parts byte_info
  obtain ⟨A, c, rfl, hn, hcl⟩ := h
  have hml : 140737488355328 ≤ maxLen := by decide
  cases A with
  | none =>
    have hb := hn rfl
    subst hb
    refine ⟨none, 0, w, ?_, BytesIn.nil w _, Only.refl w _⟩
    simp [Builtin.append_, run_underlying Tryd.underlying25, sizeOf, typeInfo, hi, Builtin.lenOf, Builtin.firstCells]
  | some ad =>
    obtain ⟨v', w', hrun, r1, r2, r3⟩ := run_append_own (P := Tryd.prog) w w.heap.size 25 ty 5 i0 _ 1 1 Tryd.underlying25 hi hz0 hz1 hz2 rfl (by decide) (.slice none 0 0) 0 [] (World.ownsRow_nil w _ _ 1) ad b.length c (b.map (Value.int .u8)) (by simp) (by
        intro j u hj
        simp only [List.getElem?_map, Option.map_eq_some_iff] at hj
        obtain ⟨x, hx, rfl⟩ := hj
        exact hcl ad rfl j x hx) (by
        intro u hu
        obtain ⟨x, _, rfl⟩ := List.mem_map.1 hu
        rfl) (by omega) (by omega) (Nat.le_refl _)
    rw [Nat.zero_add, List.nil_append] at r1
    obtain ⟨A, c', rfl⟩ := own_shape r1
    have ho : Only w w' [] := Only.grown r2 (fun k hk => by simp [Value.ownBlock] at hk)
    exact ⟨A, c', w', hrun, ⟨own_zero r1, fun k hk => (own_bl r1 k hk).1⟩, ho⟩
set_option maxHeartbeats 2000000
set_option maxRecDepth 100000

def tkv (t : GT) (A3 : Option Addr) (c3 : Nat) : List Value := [.int .i64 t.kd, .string t.s, .int .i64 t.n, .slice A3 t.b.length c3, .int .i64 t.pl]
/-- Tokens lie one behind the other, in blocks of P. -/
structure Toks (w : World) (P : Nat → Prop) (A : Option Addr) (T : List GT) : Prop where
  at' : ∀ i t, T[i]? = some t → ∃ g o A3 c3, A = some ⟨g, o, none⟩ ∧ P g ∧ (∀ j u, (tkv t A3 c3)[j]? = some u → w.cell? ⟨g, o + i * 5 + j, none⟩ = some u) ∧ BytesRd w P (.slice A3 t.b.length c3) t.b
  byte : ∀ t ∈ T, t.b.length ≤ 1000000000
theorem Toks.move {w w' : World} {P Q : Nat → Prop} {A : Option Addr} {T : List GT} (h : Toks w P A T) (hk : ∀ k, k < w.heap.size → P k → w'.heap[k]? = w.heap[k]? ∧ Q k) : Toks w' Q A T :=
  ⟨fun i t ht => by
    obtain ⟨g, o, A3, c3, h1, h2, h3, h4⟩ := h.at' i t ht
    have hlt : g < w.heap.size := World.block_lt_of_cell? _ _ (h3 0 _ rfl)
    exact ⟨g, o, A3, c3, h1, (hk g hlt h2).2, fun j u hj => (World.cell?_of_block (hk g hlt h2).1).trans (h3 j u hj), h4.move hk⟩, h.byte⟩
/-- The parser lies in block g: its tokens, where it stands, and how many more may be within one another. -/
structure PAt (w : World) (g : Nat) (A : Option Addr) (c : Nat) (T : List GT) (i n : Nat) : Prop where
  cell : w.heap[g]? = some (.cells #[.slice A T.length c, .int .i64 i, .int .i64 (40 - (n : Int))] 59 (0, 0))
  toks : Toks w (fun k => k ≠ g) A T
  len : T.length ≤ 100000
  hi : i ≤ T.length
  hn : n ≤ 40
theorem PAt.keep {w w' : World} {g : Nat} {A : Option Addr} {c : Nat} {T : List GT} {i n : Nat} (h : PAt w g A c T i n) (ho : Only w w' []) : PAt w' g A c T i n :=
  ⟨(ho.block g (Array.getElem?_eq_some_iff.1 h.cell).1 (by simp)).trans h.cell, h.toks.move (fun k hk hP => ⟨ho.block k hk (by simp), hP⟩), h.len, h.hi, h.hn⟩
theorem PAt.goes {w w' : World} {g : Nat} {A : Option Addr} {c : Nat} {T : List GT} {i n j m : Nat} (h : PAt w g A c T i n) (ho : Only w w' [g]) (hc : w'.heap[g]? = some (.cells #[.slice A T.length c, .int .i64 j, .int .i64 (40 - (m : Int))] 59 (0, 0))) (hj : j ≤ T.length) (hm : m ≤ 40) : PAt w' g A c T j m :=
  ⟨hc, h.toks.move (fun k hk hP => ⟨ho.block k hk (by simpa using hP), hP⟩), h.len, hj, hm⟩
/-- The token where it stands. -/
theorem PAt.tok {w : World} {g : Nat} {A : Option Addr} {c : Nat} {T : List GT} {i n : Nat} (h : PAt w g A c T i n) {k : Nat} {t : GT} (ht : T[k]? = some t) : ∃ b o A3 c3, A = some ⟨b, o, none⟩ ∧ b ≠ g ∧ w.cell? ⟨b, o + k * 5, none⟩ = some (.int .i64 t.kd) ∧ w.cell? ⟨b, o + k * 5 + 1, none⟩ = some (.string t.s) ∧ w.cell? ⟨b, o + k * 5 + 2, none⟩ = some (.int .i64 t.n) ∧ w.cell? ⟨b, o + k * 5 + 3, none⟩ = some (.slice A3 t.b.length c3) ∧ w.cell? ⟨b, o + k * 5 + 4, none⟩ = some (.int .i64 t.pl) ∧ BytesRd w (fun k => k ≠ g) (.slice A3 t.b.length c3) t.b := by
  obtain ⟨b, o, A3, c3, h1, h2, h3, h4⟩ := h.toks.at' k t ht
  exact ⟨b, o, A3, c3, h1, h2, h3 0 _ rfl, h3 1 _ rfl, h3 2 _ rfl, h3 3 _ rfl, h3 4 _ rfl, h4⟩
/-- Only an order was drawn. -/
def Dr (w w' : World) : Prop := ∃ q, w' = w.drewN q
theorem Dr.refl (w : World) : Dr w w := ⟨0, rfl⟩
theorem Dr.more {w w' : World} (h : Dr w w') (q : Nat) : Dr w (w'.drewN q) := by
  obtain ⟨a, rfl⟩ := h
  exact ⟨a + q, by simp [World.drewN, Nat.add_assoc]⟩
theorem Dr.trans {w w1 w2 : World} (h : Dr w w1) (h2 : Dr w1 w2) : Dr w w2 := by
  obtain ⟨a, rfl⟩ := h2
  exact h.more a
theorem Dr.only {w w' : World} (h : Dr w w') (ks : List Nat) : Only w w' ks := by
  obtain ⟨a, rfl⟩ := h
  exact Only.drewQ w a ks
theorem kind_c (w : World) (g : Nat) (A : Option Addr) (c : Nat) (T : List GT) (i n : Nat) (h : PAt w g A c T i n) : Calls Tryd.prog 35 #[.pointer (some ⟨g, 0, none⟩)] w fun e w' => e = .returned (.int .i64 (kindAt T i)) ∧ Dr w w' := by
  obtain ⟨x0, x1, x2, _⟩ := blk3 h.cell
  have hl := h.len
  have hi := h.hi
  cases ht : T[i]? with
  | none =>
    have e0 : kindAt T i = 0 := by simp [kindAt, ht]
    have hge : T.length ≤ i := by rw [List.getElem?_eq_none_iff] at ht; exact ht
    have hii : i = T.length := by omega
    rw [e0]
    clear ht e0 hge
    subst hii
    go_enter Tryd.func35, Tryd.ntmps35
    go_wp2_with fail
    go_quiet (fail)
    go_wp2_with fail
    go_ret
    exact ⟨rfl, (Dr.refl w).more _⟩
  | some t =>
    have e0 : kindAt T i = t.kd := by simp [kindAt, ht]
    have hlt : i < T.length := (List.getElem?_eq_some_iff.1 ht).1
    obtain ⟨b, o, A3, c3, rfl, _, t0, t1, t2, t3, t4, _⟩ := h.tok ht
    have z0 : (i : Int) < (T.length : Int) := by omega
    have z1 : (0 : Int) ≤ (i : Int) := by omega
    rw [e0]
    clear ht e0
    go_enter Tryd.func35, Tryd.ntmps35
    go_wp2_with fail
    go_quiet (fail)
    go_wp2_with fail
    go_quiet (fail)
    go_wp2_with fail
    go_ret
    exact ⟨rfl, ((Dr.refl w).more _).more _⟩
theorem is_c (w : World) (g : Nat) (A : Option Addr) (c : Nat) (T : List GT) (i n : Nat) (s : ByteArray) (h : PAt w g A c T i n) : Calls Tryd.prog 38 #[.pointer (some ⟨g, 0, none⟩), .string s] w fun e w' => e = .returned (.bool (isAt T i s)) ∧ Dr w w' := by
  have hk := kind_c w g A c T i n h
  have HK := Aside0.mk hk
  have HP := Aside0.mk h
  have hl := h.len
  have hi := h.hi
  cases ht : T[i]? with
  | none =>
    have e0 : kindAt T i = 0 := by simp [kindAt, ht]
    have e1 : isAt T i s = false := by simp [isAt, ht]
    rw [e0] at hk
    rw [e1]
    have HK := Aside0.mk hk
    clear ht e0 e1 hk h
    go_enter Tryd.func38, Tryd.ntmps38
    go_wp2_with (go_at_call 35; refine HK.out.mono ?_; rintro e w1 ⟨rfl, o1⟩)
    go_quiet (fail)
    go_wp2_with fail
    go_ret
    exact ⟨rfl, o1.more _⟩
  | some t =>
    have e0 : kindAt T i = t.kd := by simp [kindAt, ht]
    have hlt : i < T.length := (List.getElem?_eq_some_iff.1 ht).1
    have z0 : (i : Int) < (T.length : Int) := by omega
    have z1 : (0 : Int) ≤ (i : Int) := by omega
    obtain ⟨b, o, A3, c3, hA, _⟩ := h.tok ht
    subst hA
    rw [e0] at hk
    have HK := Aside0.mk hk
    have hcl : ∀ W, Dr w W → W.cell? ⟨g, 0, none⟩ = some (.slice (some ⟨b, o, none⟩) T.length c) ∧ W.cell? ⟨g, 1, none⟩ = some (.int .i64 i) ∧ W.cell? ⟨b, o + i * 5 + 1, none⟩ = some (.string t.s) := fun W hW => by
      have hp := HP.out.keep (hW.only [])
      obtain ⟨x0, x1, _⟩ := blk3 hp.cell
      obtain ⟨b', o', A3', c3', hA', _, _, t1, _⟩ := hp.tok ht
      cases hA'
      exact ⟨x0, x1, t1⟩
    have HC := Aside0.mk hcl
    by_cases h56 : t.kd = 5 ∨ t.kd = 6
    · have e1 : isAt T i s = (t.s.toList == s.toList) := by
        rcases h56 with h56 | h56 <;> simp [isAt, ht, h56]
      rw [e1]
      clear ht e0 e1 hk h hcl hlt
      obtain ⟨kd, hkd⟩ : ∃ kd, kd = t.kd := ⟨_, rfl⟩
      rw [← hkd] at HK h56
      clear hkd
      rcases h56 with rfl | rfl
      all_goals
        go_enter Tryd.func38, Tryd.ntmps38
        go_wp2_with (go_at_call 35; refine HK.out.mono ?_; rintro e w1 ⟨rfl, o1⟩; obtain ⟨x0, x1, t1⟩ := HC.out w1 o1)
        go_quiet (fail)
        go_wp2_with fail
        go_ret
        exact ⟨rfl, o1.more _⟩
    · have e1 : isAt T i s = false := by
        have h5 : (t.kd == 5) = false := by simp; omega
        have h6 : (t.kd == 6) = false := by simp; omega
        simp [isAt, ht, h5, h6]
      rw [e1]
      clear ht e0 e1 hk h hcl hlt
      obtain ⟨kd, hkd⟩ : ∃ kd, kd = t.kd := ⟨_, rfl⟩
      rw [← hkd] at HK h56
      clear hkd
      have h5 : (kd == 5) = false := by simp; omega
      have h6 : (kd == 6) = false := by simp; omega
      clear h56
      go_enter Tryd.func38, Tryd.ntmps38
      go_wp2_with (go_at_call 35; refine HK.out.mono ?_; rintro e w1 ⟨rfl, o1⟩)
      go_quiet (fail)
      go_wp2_with fail
      go_ret
      exact ⟨rfl, o1.more _⟩
/-- A fault is thrown. -/
abbrev thrown (k : Nat) (code : Int) : Ending := .panicked [{ v := .iface 55 (.agg #[.int .i64 k, .int .i64 code]), recovered := false }]
theorem fail_c (w : World) (g : Nat) (A : Option Addr) (c : Nat) (T : List GT) (i n : Nat) (code : Int) (h : PAt w g A c T i n) : Calls Tryd.prog 36 #[.pointer (some ⟨g, 0, none⟩), .int .i64 code] w fun e w' => e = thrown i code ∧ w' = w := by
  obtain ⟨x0, x1, x2, _⟩ := blk3 h.cell
  go_enter Tryd.func36, Tryd.ntmps36
  go_wp2_with fail
  exact ⟨rfl, rfl, rfl⟩
/-- What a part of the parser without a value comes to. -/
def PRet (w : World) (g : Nat) (A : Option Addr) (c : Nat) (T : List GT) (m : Nat) (r : PR Unit) (e : Ending) (w' : World) : Prop := match r with
  | .ok _ j => e = .returned (.tuple #[]) ∧ PAt w' g A c T j m ∧ Only w w' [g]
  | .bad k code => e = thrown k code ∧ Only w w' [g]
theorem PAt.step {w : World} {g : Nat} {A : Option Addr} {c : Nat} {T : List GT} {i n : Nat} (h : PAt w g A c T i n) {j : Nat} (hj : j ≤ T.length) : PAt (w.setCell ⟨g, 1, none⟩ (.int .i64 j)) g A c T j n ∧ Only w (w.setCell ⟨g, 1, none⟩ (.int .i64 j)) [g] := by
  have o1 := Only.setCell w ⟨g, 1, none⟩ (.int .i64 j)
  exact ⟨h.goes o1 (heap_setCell h.cell 1 _) hj h.hn, o1⟩
theorem want_c (w : World) (g : Nat) (A : Option Addr) (c : Nat) (T : List GT) (i n : Nat) (s : ByteArray) (h : PAt w g A c T i n) : Calls Tryd.prog 37 #[.pointer (some ⟨g, 0, none⟩), .string s] w (PRet w g A c T n (wantS T i s)) := by
  have his := is_c w g A c T i n s h
  have HP := Aside0.mk h
  have hl := h.len
  have hi := h.hi
  cases hb : isAt T i s with
  | true =>
    have e1 : wantS T i s = .ok () (i + 1) := by simp [wantS, hb]
    have hlt := isAt_lt hb
    rw [hb] at his
    rw [e1]
    have HIS := Aside0.mk his
    have HLT := Aside0.mk hlt
    clear e1 his hb h hlt
    go_enter Tryd.func37, Tryd.ntmps37
    go_wp2_with (go_at_call 38; refine HIS.out.mono ?_; rintro e w1 ⟨rfl, o1⟩; obtain ⟨x0, x1, x2, xf0, xf1, xf2⟩ := blk3 (HP.out.keep (o1.only [])).cell)
    have hp := (HP.out.keep (o1.only [])).step (j := i + 1) HLT.out
    go_end0
    exact ⟨rfl, by simpa using hp.1, by simpa using (o1.only [g]).trans hp.2 (fun _ h => .inl h)⟩
  | false =>
    have e1 : wantS T i s = .bad i 160 := by simp [wantS, hb]
    rw [hb] at his
    rw [e1]
    have HIS := Aside0.mk his
    have hfl := fun W hW => fail_c W g A c T i n 160 hW
    have HFL := Aside0.mk hfl
    clear e1 his hb h hfl
    go_enter Tryd.func37, Tryd.ntmps37
    go_wp2_with (first
      | (go_at_call 38; refine HIS.out.mono ?_; rintro e w1 ⟨rfl, o1⟩)
      | (go_at_call 36; refine (HFL.out w1 (HP.out.keep (o1.only []))).mono ?_; rintro e w2 ⟨rfl, rfl⟩))
    exact ⟨rfl, rfl, o1.only _⟩
end Go.Proofs.YtejidddjkngoiaaDoor
