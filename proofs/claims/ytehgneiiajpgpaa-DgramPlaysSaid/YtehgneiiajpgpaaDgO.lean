/- dgram: Take. -/
import Derived.Test.YtehgneiiajpgpaaDgN
import Derived.Lib.Hide
namespace Go.Proofs.Ytehgneiiajpgpaa
open Go.RowKit Go.Maps
set_option linter.all false
set_option maxHeartbeats 1000000
set_option maxRecDepth 100000

def take0 (N : Net0) (k : Int) : Net0 × Option D0 × Int := if nodeB N k = false then (N, none, 90) else match N.box k with
  | [] => (N, none, 0)
  | x :: r => ({ N with box := upd0 N.box k r, ops := N.ops + 1 }, some x, 0)
/-- A net and, apart from it, a datagram. -/
def NetAnd (w : World) (p : Nat) (N : Net0) (K : List Nat) (d : Dg) : Prop := ∃ G : NetG, G.p = p ∧ G.wf ∧ Sep w (d.items ++ G.items) ∧ (d.items ++ G.items).map (·.1) = K ∧ G.abs = N
def Took (w : World) (p : Nat) (N' : Net0) (K : List Nat) (code : Int) (ox : Option D0) (e : Ending) (w' : World) : Prop :=
  match ox with
  | none => e = .returned (.tuple #[zeroDg, .bool false, .int .i64 code]) ∧ NetTo w w' p N' K
  | some x => ∃ d : Dg, d.abs = x ∧ d.wf ∧ e = .returned (.tuple #[.agg d.cells.toArray, .bool true, .int .i64 code]) ∧ ∃ K', NetAnd w' p N' K' d ∧ (∀ k ∈ K', k ∈ K ∨ w.heap.size ≤ k) ∧ Only w w' K
def Row.pop (r : Row) : Row := if r.ds.length + r.k = 1 then ⟨[], r.g, r.pre, flat r.ds ++ r.post, 0⟩ else ⟨r.ds.tail, r.g, r.pre ++ flat (r.ds.take 1), r.post, r.k⟩
theorem Row.pop_obj (r : Row) : r.pop.obj = r.obj := by
  unfold Row.pop Row.obj
  split
  · simp [flat]
  · have : flat r.ds = flat (r.ds.take 1) ++ flat r.ds.tail := by rw [← flat_app, ← List.drop_one, List.take_append_drop]
    rw [this]
    simp
theorem Row.pop_ds (r : Row) (h : r.ds ≠ []) : r.pop.ds = r.ds.tail := by
  unfold Row.pop
  split
  · cases hd : r.ds with
    | nil => exact absurd hd h
    | cons x l =>
      rename_i hh
      rw [hd, List.length_cons] at hh
      have : l.length = 0 := by omega
      simp [List.eq_nil_of_length_eq_zero this]
  · rfl
theorem Row.pop_g (r : Row) : r.pop.g = r.g := by unfold Row.pop; split <;> rfl
theorem Row.pop_wf {r : Row} (h : r.wf) (hne : r.ds ≠ []) : r.pop.wf := by
  have hg : r.g ≠ none := fun e => hne (h.nil e).1
  have h1 := h.room
  have h2 := h.cap
  have h3 := h.one
  unfold Row.pop
  split
  · exact ⟨fun e => absurd e hg, by simp, by simp, by simp⟩
  · refine ⟨fun e => absurd e hg, h1, ?_, fun d hd => h3 d (List.mem_of_mem_tail hd)⟩
    show r.ds.tail.length + r.k ≤ maxLen
    rw [List.length_tail]
    omega
theorem Row.pop_val {r : Row} {g : Nat} (hg : r.g = some g) (hne : r.ds ≠ []) :
    r.pop.val = .slice (if r.ds.length + r.k = 1 then some ⟨g, r.pre.length, none⟩ else some ⟨g, r.pre.length + 5, none⟩) (r.ds.length - 1) (r.ds.length + r.k - 1) := by
  have hl : 1 ≤ r.ds.length := by cases hd : r.ds with | nil => exact absurd hd hne | cons x l => simp
  have hf : (flat (r.ds.take 1)).length = 5 := by rw [flat_len, List.length_take]; omega
  unfold Row.pop
  split
  · rename_i h
    simp only [Row.val, hg, List.length_nil]
    congr 1 <;> omega
  · simp only [Row.val, hg, List.length_append, hf, List.length_tail]
    congr 1
    omega
theorem took_none {w wa : World} {p : Nat} {N : Net0} {K : List Nat} (hlt : ∀ k ∈ K, k < w.heap.size) (hs : w.heap.size < wa.heap.size) (h : NetTo w wa p N K) (hK : NetAt wa p N K) (v0 v1 v2 v3 v4 : Value) :
    NetTo w (((((wa.setCell ⟨w.heap.size, 0, none⟩ v0).setCell ⟨w.heap.size, 1, none⟩ v1).setCell ⟨w.heap.size, 2, none⟩ v2).setCell ⟨w.heap.size, 3, none⟩ v3).setCell ⟨w.heap.size, 4, none⟩ v4) p N K := by
  have ho := Only.set5 wa w.heap.size v0 v1 v2 v3 v4 [w.heap.size] (by simp)
  obtain ⟨G, g1, g2, g3, g4, g5⟩ := hK
  obtain ⟨_, _, _, h3⟩ := h
  refine ⟨K, ⟨G, g1, g2, g3.only ho (fun k hk => ?_), g4, g5⟩, fun _ h => .inl h, h3.trans ho (by simp)⟩
  have := hlt k (g4 ▸ hk)
  simp
  omega
theorem take_c (w : World) (p : Nat) (N : Net0) (K : List Nat) (hN : NetAt w p N K) (k : Int) (hops : N.ops < 1000000) :
    Calls Try.prog 33 #[.pointer (some ⟨p, 0, none⟩), .int .i64 k] w fun e w' => Took w p (take0 N k).1 K (take0 N k).2.2 (take0 N k).2.1 e w' := by
  obtain ⟨G, hGp, hG, hS, hK, hGN⟩ := id hN
  obtain ⟨A1, c1', hv⟩ := G.way.val_slice hG.way
  obtain ⟨wa, hwa⟩ : ∃ wa, wa = w.alloc (.cells #[.int .i64 0, .int .i64 0, .int .u64 0, .slice none 0 0, .bool false] 54) := ⟨_, rfl⟩
  have oa : Only w wa [] := by rw [hwa]; exact Only.alloc w _ []
  have hSa : Sep wa G.items := hS.only oa (fun _ _ => by simp)
  have hb0 : wa.heap[w.heap.size]? = some (.cells #[.int .i64 0, .int .i64 0, .int .u64 0, .slice none 0 0, .bool false] 54 (0, 0)) := by rw [hwa]; exact heap_alloc_new w _
  obtain ⟨e0, e1, e2, e3, e4, h0, h1, h2, h3, h4⟩ := blk5 hb0
  have hp := hSa.head
  have hm := hSa.tail.head
  simp only [NetG.obj, hv, hGp] at hp
  obtain ⟨c0, c1, c2, c3, c4, f0, f1, f2, f3, f4⟩ := blk5 hp
  have hnn : N.nodes = G.nodes := by rw [← hGN]; rfl
  have hto : NetTo w wa p N K := ⟨K, ⟨G, hGp, hG, hSa, hK, hGN⟩, fun _ h => .inl h, oa.weaken (by simp)⟩
  by_cases h1' : nodeB N k = true
  · have hd1 : decide (1 ≤ k ∧ k ≤ G.nodes) = true := by simpa [nodeB, hnn] using h1'
    have hk : 1 ≤ k ∧ k ≤ G.nodes := by simpa using hd1
    have hwk : (Lit.int .i64 k).wf = true := WalkArith.wf_i64 (by have := hG.nodes; omega)
    obtain ⟨A2, c2', hv2⟩ := (G.bx k).val_slice (hG.box k)
    have hl := map_look hG.map hm k hwk
    simp only [hv2] at hl
    have hbx : N.box k = (G.bx k).ds.map Dg.abs := by rw [← hGN]; rfl
    cases hds : (G.bx k).ds with
    | nil =>
      have e0' : take0 N k = (N, none, 0) := by simp [take0, h1', hbx, hds]
      rw [e0']
      simp only [hds, List.length_nil] at hl hv2
      go_enter Try.func33, Try.ntmps33
      go_wp2_with (first | (go_at_call 34; rw [← hwa]; clear hwa; refine (node_c _ p _ G.nodes c0).mono ?_; rw [hd1]; rintro e w2 ⟨rfl, rfl⟩))
      refine bodyPost_ret (v := .tuple #[zeroDg, .bool false, .int .i64 0]) (by simp [results, Try.results33, go_sem, e0, e1, e2, e3, e4]) rfl ⟨rfl, ?_⟩
      exact took_none (fun k hk => hS.lt k (by rw [← hK] at hk; exact hk)) (Array.getElem?_eq_some_iff.1 hb0).1 hto ⟨G, hGp, hG, hSa, hK, hGN⟩ _ _ _ _ _
    | cons d rest =>
      have hne : (G.bx k).ds ≠ [] := by rw [hds]; simp
      have hdw : d.wf := (hG.box k).one d (by rw [hds]; simp)
      have e0' : take0 N k = ({ N with box := upd0 N.box k (rest.map Dg.abs), ops := N.ops + 1 }, some d.abs, 0) := by simp [take0, h1', hbx, hds]
      rw [e0']
      obtain ⟨g, hg⟩ : ∃ g, (G.bx k).g = some g := by
        cases hg : (G.bx k).g with
        | none => exact absurd ((hG.box k).nil hg).1 hne
        | some g => exact ⟨g, rfl⟩
      have hmemG : (g, (G.bx k).obj) ∈ G.items := by
        simp only [NetG.items, NetG.boxItems, List.mem_cons, List.mem_append]
        exact .inr (.inr (.inr (List.mem_flatMap.2 ⟨k, mem_keysTo.2 ⟨hk.1, by have := hG.nodes; omega⟩, by simp [Row.items, Row.own_of hg]⟩)))
      have hgb : wa.heap[g]? = some (G.bx k).obj := hSa.block hmemG
      have hv2' : A2 = some ⟨g, (G.bx k).pre.length, none⟩ ∧ c2' = (G.bx k).ds.length + (G.bx k).k := by
        simp only [Row.val, hg, Value.slice.injEq] at hv2
        exact ⟨hv2.1.symm, hv2.2.2.symm⟩
      obtain ⟨rfl, hcap⟩ := hv2'
      have hpv := Row.pop_val hg hne
      obtain ⟨A5, hA5⟩ : ∃ A5, (if (G.bx k).ds.length + (G.bx k).k = 1 then some (⟨g, (G.bx k).pre.length, none⟩ : Addr) else some ⟨g, (G.bx k).pre.length + 5, none⟩) = A5 := ⟨_, rfl⟩
      rw [hA5] at hpv
      have hlen1 : 1 ≤ (G.bx k).ds.length := by rw [hds]; simp
      have hbl := hG.blen k
      have hL0 : ¬ ((G.bx k).ds.length = 0) := by omega
      have b1 : (1 : Int) ≤ ((G.bx k).ds.length : Int) := by omega
      have b2 : (1 : Int) ≤ (c2' : Int) := by omega
      have b3 : (0 : Int) < ((G.bx k).ds.length : Int) := by omega
      have hsz : G.sz < maxLen := by
        have : G.sz = N.ops := by rw [← hGN]; rfl
        have hm : 1000000 ≤ maxLen := by decide
        omega
      obtain ⟨es', clock', w5, hst, hb5, hm5, ho5⟩ := map_store (w := wa.drew) hG.map hm hsz k hwk (.slice A5 ((G.bx k).ds.length - 1) ((G.bx k).ds.length + (G.bx k).k - 1))
      have ho5' : Only wa w5 [G.mb] := (Only.drew wa [G.mb]).trans ho5 (by simp)
      have hgm : g ≠ G.mb := by
        rintro rfl
        have := hSa.tail.notin
        simp only [List.map_append, List.mem_append, not_or] at this
        refine this.2 (List.mem_map_of_mem (f := (·.1)) (a := (G.mb, (G.bx k).obj)) ?_)
        exact List.mem_flatMap.2 ⟨k, mem_keysTo.2 ⟨hk.1, by have := hG.nodes; omega⟩, by simp [Row.items, Row.own_of hg]⟩
      have hgb5 : w5.heap[g]? = some (G.bx k).obj := (ho5'.block g (Array.getElem?_eq_some_iff.1 hgb).1 (by simpa using hgm)).trans hgb
      obtain ⟨x0, x1, x2, x3, x4⟩ := Row.at hgb5 0 d (by rw [hds]; rfl)
      simp only [Nat.zero_mul, Nat.add_zero] at x0 x1 x2 x3 x4
      obtain ⟨A3, n3, c3', hv3⟩ := d.val_slice
      rw [hv3] at x3
      have hlm : w.heap.size ≠ G.mb := by
        have := hS.lt G.mb (by simp [NetG.items])
        omega
      have hb5l : w5.heap[w.heap.size]? = some (.cells #[.int .i64 0, .int .i64 0, .int .u64 0, .slice none 0 0, .bool false] 54 (0, 0)) := (ho5'.block _ (Array.getElem?_eq_some_iff.1 hb0).1 (by simpa using hlm)).trans hb0
      obtain ⟨y0, y1, y2, y3, y4, z0, z1, z2, z3, z4⟩ := blk5 hb5l
      have HDS := Lib.hid hds
      clear hds
      go_enter Try.func33, Try.ntmps33
      go_wp2_with (first | (go_at_call 34; rw [← hwa]; clear hwa; refine (node_c _ p _ G.nodes c0).mono ?_; rw [hd1]; rintro e w2 ⟨rfl, rfl⟩))
      go_region
      go_wp2
      refine bodyPost_ret (v := .tuple #[.agg #[.int .i64 d.f, .int .i64 d.t, .int .u64 d.n, .slice A3 n3 c3', .bool d.sp], .bool true, .int .i64 0]) (by simp [results, Try.results33, go_sem, y0, y1, y2, y3, y4]) rfl ?_
      have hds : (G.bx k).ds = d :: rest := HDS
      have htail : (G.bx k).ds.tail = rest := by rw [hds]; rfl
      rw [← hpv] at hm5
      have hpds := Row.pop_ds (G.bx k) hne
      obtain ⟨v1, v2, v3⟩ := box_swap (r' := (G.bx k).pop) (l := d.items) (sz := G.sz + 1) hG hSa hk (Row.pop_wf (hG.box k) hne) (by rw [hpds, List.length_tail]; omega) (by
        have hg' : (G.bx k).pop.g = some g := by rw [Row.pop_g, hg]
        simp only [Row.items, Row.own_of hg, Row.own_of hg', Row.pop_obj, hpds, hds, List.tail_cons, List.flatMap_cons]
        refine perm_by fun _ x => ?_
        simp only [List.count_append, List.count_cons, List.count_nil]
        omega) hm5 ho5' hb5
      have ho6 := Only.set5 w5 w.heap.size (.int .i64 d.f) (.int .i64 d.t) (.int .u64 d.n) (.slice A3 n3 c3') (.bool d.sp) [w.heap.size] (by simp)
      have hmK : G.mb ∈ G.keys := by simp [NetG.keys, NetG.items]
      refine ⟨d, rfl, hdw, by simp [Dg.cells, hv3], _, ⟨_, ?_, v1, v2.only ho6 (fun y hy => ?_), rfl, ?_⟩, fun y hy => .inl (hK ▸ v3 y hy), ?_⟩
      · exact hGp
      · have := hS.lt y (v3 y hy)
        simp
        omega
      · rw [← hGN]
        simp only [NetG.abs, Net0.mk.injEq, true_and, and_true]
        funext j
        show (updR G.bx k (G.bx k).pop j).ds.map Dg.abs = _
        unfold updR upd0
        by_cases e : j = k
        · rw [if_pos e, if_pos e, hpds, htail]
        · rw [if_neg e, if_neg e]
      · rw [← hK]
        exact ((oa.weaken (ks2 := G.keys) (by simp)).trans ho5' (by simp [hmK])).trans ho6 (by simp)
  · have e0' : take0 N k = (N, none, 90) := by simp only [Bool.not_eq_true] at h1'; simp [take0, h1']
    rw [e0']
    have hd1 : decide (1 ≤ k ∧ k ≤ G.nodes) = false := by simpa [nodeB, hnn] using h1'
    go_enter Try.func33, Try.ntmps33
    go_wp2_with (go_at_call 34; rw [← hwa]; clear hwa; refine (node_c _ p _ G.nodes c0).mono ?_; rw [hd1]; rintro e w2 ⟨rfl, rfl⟩)
    refine bodyPost_ret (v := .tuple #[zeroDg, .bool false, .int .i64 90]) (by simp [results, Try.results33, go_sem, e0, e1, e2, e3, e4]) rfl ⟨rfl, ?_⟩
    exact took_none (fun k hk => hS.lt k (by rw [← hK] at hk; exact hk)) (Array.getElem?_eq_some_iff.1 hb0).1 hto ⟨G, hGp, hG, hSa, hK, hGN⟩ _ _ _ _ _
end Go.Proofs.Ytehgneiiajpgpaa
