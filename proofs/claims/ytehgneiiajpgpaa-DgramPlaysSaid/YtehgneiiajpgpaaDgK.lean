/- dgram: a box is given one more. -/
import Derived.Test.YtehgneiiajpgpaaDgJ
namespace Go.Proofs.Ytehgneiiajpgpaa
open Go.RowKit Go.Maps
set_option linter.all false

def updR (f : Int → Row) (k : Int) (r : Row) : Int → Row := fun x => if x = k then r else f x
theorem keysTo_nodup (n : Nat) : (keysTo n).Nodup := by
  unfold keysTo
  exact List.Pairwise.map _ (fun a b h e => h (by have : (a : Int) + 1 = (b : Int) + 1 := e; omega)) List.nodup_range
def NetG.boxRest (G : NetG) (k : Int) : List Item := ((keysTo G.nodes.toNat).erase k).flatMap fun j => (G.bx j).items
theorem NetG.box_perm (G : NetG) {k : Int} (hk : 1 ≤ k ∧ k ≤ G.nodes) : G.boxItems.Perm ((G.bx k).items ++ G.boxRest k) := by
  have hm : k ∈ keysTo G.nodes.toNat := mem_keysTo.2 ⟨hk.1, by omega⟩
  have := List.Perm.flatMap_right (fun j => (G.bx j).items) (List.perm_cons_erase hm)
  simpa [NetG.boxItems, NetG.boxRest] using this
theorem NetG.box_upd (G : NetG) {k : Int} (r : Row) (es : Array MapEntry) (clock sz : Nat) (hk : 1 ≤ k ∧ k ≤ G.nodes) : (NetG.boxItems { G with bx := updR G.bx k r, es := es, clock := clock, sz := sz }).Perm (r.items ++ G.boxRest k) := by
  have h := NetG.box_perm { G with bx := updR G.bx k r, es := es, clock := clock, sz := sz } (k := k) hk
  have e1 : updR G.bx k r k = r := by simp [updR]
  have e2 : NetG.boxRest { G with bx := updR G.bx k r, es := es, clock := clock, sz := sz } k = G.boxRest k := by
    unfold NetG.boxRest
    rw [List.flatMap_def, List.flatMap_def]
    congr 1
    refine List.map_congr_left (fun j hj => ?_)
    have hne : j ≠ k := fun e => by
      rw [e] at hj
      exact (List.Nodup.mem_erase_iff (keysTo_nodup _)).1 hj |>.1 rfl
    simp [updR, hne]
  rw [e2] at h
  simpa [e1] using h
theorem netTo_of {w w' : World} {G G' : NetG} (hp : G'.p = G.p) (hG : G'.wf) (hS : Sep w' G'.items) (hk : ∀ k ∈ G'.keys, k ∈ G.keys ∨ w.heap.size ≤ k) (ho : Only w w' G.keys) : NetTo w w' G.p G'.abs G.keys :=
  ⟨_, ⟨G', hp, hG, hS, rfl, rfl⟩, hk, ho⟩
theorem updV_val (f : Int → Row) (k : Int) (r : Row) : updV (fun j => (f j).val) k r.val = fun j => (updR f k r j).val := by
  funext j
  unfold updV updR
  split <;> rfl
/-- Behind an append to a box and the store of it. -/
theorem box_close {w w1 w4 w5 : World} {G : NetG} {d : Dg} {r' : Row} {es : Array MapEntry} {clock : Nat} (hG : G.wf) (hS : Sep w (d.items ++ G.items)) (hd : d.wf) (ht : 1 ≤ d.t ∧ d.t ≤ G.nodes) (hl : (G.bx d.t).ds.length < 64)
    (h1 : Only w w1 []) (r1 : r'.ds = (G.bx d.t).ds ++ [d]) (r2 : r'.wf)
    (r3 : (∃ g, (G.bx d.t).g = some g ∧ r'.g = some g ∧ w4.heap[g]? = some r'.obj ∧ Only w1 w4 [g]) ∨ (∃ g, w1.heap.size ≤ g ∧ r'.g = some g ∧ w4.heap[g]? = some r'.obj ∧ Only w1 w4 []))
    (hm : MapOf es clock (G.sz + 1) (updV (fun j => (G.bx j).val) d.t r'.val)) (h5 : Only w4 w5 [G.mb]) (hb : w5.heap[G.mb]? = some (.map es clock)) :
    NetG.wf { G with bx := updR G.bx d.t r', es := es, clock := clock, sz := G.sz + 1 } ∧ Sep w5 (NetG.items { G with bx := updR G.bx d.t r', es := es, clock := clock, sz := G.sz + 1 }) ∧
    Only w w5 ((d.items ++ G.items).map (·.1)) ∧ (∀ k ∈ NetG.keys { G with bx := updR G.bx d.t r', es := es, clock := clock, sz := G.sz + 1 }, k ∈ (d.items ++ G.items).map (·.1) ∨ w.heap.size ≤ k) := by
  obtain ⟨K, hK⟩ : ∃ K, K = (d.items ++ G.items).map (·.1) := ⟨_, rfl⟩
  rw [← hK]
  have hS1 : Sep w1 (d.items ++ G.items) := hS.only h1 (fun _ _ => by simp)
  obtain ⟨REST, hR⟩ : ∃ R, R = ((G.p, G.obj) :: (G.way.items ++ (G.bx d.t).ds.flatMap Dg.items ++ d.items ++ G.boxRest d.t)) := ⟨_, rfl⟩
  have p1 : (d.items ++ G.items).Perm ((G.bx d.t).own ++ ((G.mb, .map G.es G.clock) :: REST)) := by
    rw [hR]
    simp only [NetG.items]
    refine perm_by fun _ x => ?_
    have hb' := (List.perm_iff_count.1 (G.box_perm ht)) x
    simp only [Row.items, List.count_append, List.count_cons] at hb' ⊢
    omega
  have hSp := hS1.perm p1
  have hmemK : ∀ x, x ∈ ((G.bx d.t).own ++ ((G.mb, Obj.map G.es G.clock) :: REST)).map (·.1) → x ∈ K := fun x hx => by
    rw [hK]; exact ((p1.map (·.1)).mem_iff).2 hx
  have hmb : G.mb ∈ K := hmemK _ (by simp)
  have hRK : ∀ x ∈ REST.map (·.1), x ∈ K := fun x hx => hmemK _ (by rw [List.map_append, List.map_cons]; exact List.mem_append_right _ (List.mem_cons_of_mem _ hx))
  have hS4 : Sep w4 (r'.own ++ ((G.mb, .map G.es G.clock) :: REST)) ∧ Only w w4 K ∧ (∀ k ∈ r'.own.map (·.1), k ∈ K ∨ w.heap.size ≤ k) := by
    rcases r3 with ⟨g, g1, g2, g3, g4⟩ | ⟨g, g1, g2, g3, g4⟩
    · rw [Row.own_of g1] at hSp hmemK
      rw [Row.own_of g2]
      have hgk : g ∈ K := hmemK g (by simp)
      exact ⟨hSp.put g4 g3, (h1.weaken (ks2 := K) (fun _ h => by cases h)).trans g4 (by simp [hgk]), by simp [hgk]⟩
    · rw [Row.own_of g2]
      have hSr : Sep w1 ((G.mb, .map G.es G.clock) :: REST) := hSp.right
      refine ⟨(hSr.only g4 (fun _ _ => by simp)).join g _ g3 (fun hm => by have := hSr.lt g hm; omega), ?_, by intro k hk; simp at hk; exact .inr (hk ▸ Nat.le_trans h1.size g1)⟩
      exact (h1.weaken (ks2 := K) (fun _ h => by cases h)).trans g4 (fun _ h => by cases h)
  obtain ⟨hS4, ho4, hk4⟩ := hS4
  have p2 : (r'.own ++ ((G.mb, Obj.map G.es G.clock) :: REST)).Perm ((G.mb, Obj.map G.es G.clock) :: (r'.own ++ REST)) := List.perm_middle
  have hS5 : Sep w5 ((G.mb, .map es clock) :: (r'.own ++ REST)) := (hS4.perm p2).put h5 hb
  obtain ⟨G', hG'⟩ : ∃ G', G' = ({ G with bx := updR G.bx d.t r', es := es, clock := clock, sz := G.sz + 1 } : NetG) := ⟨_, rfl⟩
  have p3 : ((G.mb, Obj.map es clock) :: (r'.own ++ REST)).Perm G'.items := by
    rw [hR, hG']
    simp only [NetG.items]
    refine perm_by fun _ x => ?_
    have hb' := (List.perm_iff_count.1 (G.box_upd r' es clock (G.sz + 1) ht)) x
    simp only [Row.items, r1, List.flatMap_append, List.flatMap_cons, List.flatMap_nil, List.append_nil, List.count_append, List.count_cons] at hb' ⊢
    have eo : NetG.obj { G with bx := updR G.bx d.t r', es := es, clock := clock, sz := G.sz + 1 } = G.obj := rfl
    simp only [eo]
    omega
  rw [← hG']
  refine ⟨?_, hS5.perm p3, ho4.trans h5 (by simp [hmb]), fun k hk => ?_⟩
  · rw [hG']
    refine { hG with box := fun k => ?_, blen := fun k => ?_, out := fun k hk => ?_, map := ?_ }
    · show (updR G.bx d.t r' k).wf
      unfold updR
      split
      · exact r2
      · exact hG.box k
    · show (updR G.bx d.t r' k).ds.length ≤ 64
      unfold updR
      split
      · rw [r1, List.length_append, List.length_singleton]; omega
      · exact hG.blen k
    · have hne : k ≠ d.t := fun e => hk (e ▸ ht)
      show (updR G.bx d.t r' k).ds = [] ∧ (updR G.bx d.t r' k).g = none
      unfold updR
      rw [if_neg hne]
      exact hG.out k hk
    · rw [updV_val] at hm
      exact hm
  · have hk' := ((p3.map (·.1)).mem_iff).2 hk
    rw [List.map_cons, List.map_append, List.mem_cons, List.mem_append] at hk'
    rcases hk' with rfl | hk' | hk'
    · exact .inl hmb
    · exact hk4 k hk'
    · exact .inl (hRK k hk')
end Go.Proofs.Ytehgneiiajpgpaa
