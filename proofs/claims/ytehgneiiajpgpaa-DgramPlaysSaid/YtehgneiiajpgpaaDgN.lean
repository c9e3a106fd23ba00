/- dgram: Drop, Wipe. -/
import Derived.Test.YtehgneiiajpgpaaDgM
namespace Go.Proofs.Ytehgneiiajpgpaa
open Go.RowKit Go.Maps
set_option linter.all false
set_option maxHeartbeats 1000000
set_option maxRecDepth 100000

def drop0 (N : Net0) (i : Int) : Net0 × Int := match at0 N i with
  | none => (N, 92)
  | some _ => ({ N with way := N.way.eraseIdx i.toNat, lost := wrap64 (N.lost + 1) }, 0)
theorem drop_c (w : World) (p : Nat) (N : Net0) (K : List Nat) (hN : NetAt w p N K) (i : Int) :
    Calls Try.prog 39 #[.pointer (some ⟨p, 0, none⟩), .int .i64 i] w fun e w' => e = .returned (.int .i64 (drop0 N i).2) ∧ NetTo w w' p (drop0 N i).1 K := by
  obtain ⟨G, hGp, hG, hS, hK, hGN⟩ := id hN
  obtain ⟨A1, c1', hv⟩ := G.way.val_slice hG.way
  have hp := hS.head
  simp only [NetG.obj, hv, hGp] at hp
  obtain ⟨c0, c1, c2, c3, c4, f0, f1, f2, f3, f4⟩ := blk5 hp
  have hh := has_c w p i G.way.ds.length A1 c1' hG.wlen c2
  have hl : (G.abs.way.length : Int) = G.way.ds.length := by simp [NetG.abs]
  cases ha : at0 N i with
  | none =>
    have e0 : drop0 N i = (N, 92) := by simp [drop0, ha]
    rw [e0]
    rw [if_pos (by have := at0_none.1 ha; rw [← hGN] at this; omega)] at hh
    go_enter Try.func39, Try.ntmps39
    go_wp2_with (go_at_call 37; refine hh.mono ?_; rintro e w2 ⟨rfl, rfl⟩)
    go_ret
    exact ⟨rfl, .refl hN⟩
  | some x =>
    rw [if_neg (by have h1 := mt at0_none.2 (by rw [ha]; simp); rw [← hGN] at h1; omega)] at hh
    have ha' := ha
    rw [← hGN] at ha'
    obtain ⟨i0, i1, d, hd, hdx, hdw, g, hg, hgb⟩ := way_at hG hS ha'
    obtain ⟨k, rfl⟩ : ∃ k : Nat, i = k := ⟨i.toNat, by omega⟩
    have hd' : G.way.ds[k]? = some d := by simpa using hd
    have hout := out_c w p G hGp hG hS k d hd'
    obtain ⟨G1, hG1⟩ : ∃ G1, G1 = ({ G with way := G.way.without k } : NetG) := ⟨_, rfl⟩
    have hG1w : G1.wf := by
      rw [hG1]
      have hlk : k < G.way.ds.length := by omega
      refine { hG with way := Row.without_wf hG.way hlk, wlen := ?_, to := fun y hy => hG.to y (List.mem_of_mem_eraseIdx hy) }
      have := List.length_eraseIdx_le (l := G.way.ds) (i := k)
      exact Nat.le_trans this hG.wlen
    obtain ⟨Aw, cw, hvw⟩ := G1.way.val_slice hG1w.way
    rw [← hG1] at hout
    have hkey : ∀ (w3 : World), Sep w3 (d.items ++ G1.items) → w3.heap[p]? = some (.cells #[.int .i64 G.nodes, .int .u64 G.next, .slice Aw G1.way.ds.length cw, .map (some G.mb), .int .i64 G.lost] 79 (0, 0)) := by
      intro w3 hS3
      have h1 := hS3.right.head
      simp only [NetG.obj, hvw] at h1
      rw [hG1] at h1
      rw [← hGp, hG1]
      exact h1
    have e0 : drop0 N k = ({ N with way := N.way.eraseIdx k, lost := wrap64 (N.lost + 1) }, 0) := by
      simp [drop0, ha]
    rw [e0]
    go_enter Try.func39, Try.ntmps39
    go_wp2_with (first | (go_at_call 37; refine hh.mono ?_; rintro e w2 ⟨rfl, rfl⟩) | (go_at_call 38; refine hout.mono ?_; rintro e w3 ⟨A, n, c, hdv, rfl, hS3, ho3⟩; obtain ⟨y0, y1, y2, y3, y4, z0, z1, z2, z3, z4⟩ := blk5 (hkey w3 hS3)))
    go_ret
    refine ⟨rfl, ?_⟩
    have hSa : Sep w3 G1.items := hS3.right
    have hGp1 : G1.p = G.p := by rw [hG1]
    have hlw : -9223372036854775808 ≤ wrap64 (G.lost + 1) ∧ wrap64 (G.lost + 1) ≤ 9223372036854775807 := by unfold wrap64; omega
    have hS5 := NetG.setNet (G' := { G1 with lost := wrap64 (G.lost + 1) }) hSa (Only.setCell w3 ⟨G1.p, 4, none⟩ (.int .i64 (wrap64 (G.lost + 1)))) rfl rfl rfl rfl rfl rfl rfl (by
      have h1 := hSa.head
      simp only [NetG.obj, hvw] at h1
      rw [heap_setCell h1]
      simp [NetG.obj, hvw])
    have hfin := netTo_of (w := w2) (w' := w3.setCell ⟨G1.p, 4, none⟩ (.int .i64 (wrap64 (G.lost + 1)))) (G := G) (G' := { G1 with lost := wrap64 (G.lost + 1) }) hGp1 { hG1w with lost := hlw } hS5 (fun y hy => .inl (without_keys hg hd' y (by rw [← hG1]; exact hy))) (ho3.trans (Only.setCell _ _ _) (by simp [hGp1, NetG.keys, NetG.items]))
    have hab : NetG.abs { G1 with lost := wrap64 (G.lost + 1) } = { N with way := N.way.eraseIdx k, lost := wrap64 (N.lost + 1) } := by
      rw [← hGN, hG1]
      simp [NetG.abs, Row.without, map_eraseIdx0]
    rw [hab, hGp1, hGp, hK] at hfin
    exact hfin
def wipe0 (N : Net0) (k : Int) : Net0 × Int := if nodeB N k = false then (N, 90) else ({ N with lost := wrap64 (N.lost + (N.box k).length), box := upd0 N.box k [] }, 0)
theorem wpList_delete_by {P : Program} {w : World} {ops : Array Oper} {rest : List Oper} {o : Oper} {a : Act} {Q : Exit → Act → World → Prop} (hgd : o.guard = none) (s x : Operand) (t tx : TypeId)
    (ho : o.op = .call { callee := .builtin .delete, args := #[s, x], argTypes := #[t, tx] }) (vs vx : Value) (hs : a.eval s = vs) (hx : a.eval x = vx) (v' : Value) (w' : World)
    (hrun : (Builtin.delete_ #[t, tx] o.type #[vs, vx]).run P w = .ok v' w') (h : wpList P ops Q rest (a.put o.dst v') w') : wpList P ops Q (o :: rest) a w := by
  refine wpList_plain hgd fun K hK => ?_
  unfold Oper.wp execOp
  simp only [ho, resolve, invoke, builtin, Sem.run_bind, Sem.run_pure, Result.andThen_ok, List.map_toArray, List.map_cons, List.map_nil, hs, hx, hrun]
  exact hK _ _ h
/-- A box is another row now, of fewer blocks. -/
theorem box_swap {w w5 : World} {G : NetG} {k : Int} {r' : Row} {l : List Item} {es : Array MapEntry} {clock sz : Nat} (hG : G.wf) (hS : Sep w G.items) (hk : 1 ≤ k ∧ k ≤ G.nodes) (r2 : r'.wf) (hr : r'.ds.length ≤ 64)
    (hp : (G.bx k).items.Perm (l ++ r'.items)) (hm : MapOf es clock sz (updV (fun j => (G.bx j).val) k r'.val)) (h5 : Only w w5 [G.mb]) (hb : w5.heap[G.mb]? = some (.map es clock)) :
    NetG.wf { G with bx := updR G.bx k r', es := es, clock := clock, sz := sz } ∧ Sep w5 (l ++ NetG.items { G with bx := updR G.bx k r', es := es, clock := clock, sz := sz }) ∧
    (∀ k' ∈ (l ++ NetG.items { G with bx := updR G.bx k r', es := es, clock := clock, sz := sz }).map (·.1), k' ∈ G.keys) := by
  have p1 : G.items.Perm ((G.mb, Obj.map G.es G.clock) :: (l ++ ((G.p, G.obj) :: (G.way.items ++ (r'.items ++ G.boxRest k))))) := by
    simp only [NetG.items]
    refine perm_by fun _ x => ?_
    have hb' := (List.perm_iff_count.1 (G.box_perm hk)) x
    have hp' := (List.perm_iff_count.1 hp) x
    simp only [List.count_append, List.count_cons] at hb' hp' ⊢
    omega
  have p2 : ((G.mb, Obj.map es clock) :: (l ++ ((G.p, G.obj) :: (G.way.items ++ (r'.items ++ G.boxRest k))))).Perm (l ++ NetG.items { G with bx := updR G.bx k r', es := es, clock := clock, sz := sz }) := by
    simp only [NetG.items]
    refine perm_by fun _ x => ?_
    have hb' := (List.perm_iff_count.1 (G.box_upd r' es clock sz hk)) x
    have eo : NetG.obj { G with bx := updR G.bx k r', es := es, clock := clock, sz := sz } = G.obj := rfl
    simp only [List.count_append, List.count_cons, eo] at hb' ⊢
    omega
  have hS5 := ((hS.perm p1).put h5 hb).perm p2
  refine ⟨?_, hS5, fun k' hk' => ?_⟩
  · refine { hG with box := fun j => ?_, blen := fun j => ?_, out := fun j hj => ?_, map := ?_ }
    · show (updR G.bx k r' j).wf
      unfold updR
      split
      · exact r2
      · exact hG.box j
    · show (updR G.bx k r' j).ds.length ≤ 64
      unfold updR
      split
      · exact hr
      · exact hG.blen j
    · have hne : j ≠ k := fun e => hj (e ▸ hk)
      show (updR G.bx k r' j).ds = [] ∧ (updR G.bx k r' j).g = none
      unfold updR
      rw [if_neg hne]
      exact hG.out j hj
    · rw [updV_val] at hm
      exact hm
  · have h1 := ((p2.map (·.1)).mem_iff).2 hk'
    exact ((p1.map (·.1)).mem_iff).2 (by simpa using h1)
theorem wipe_c (w : World) (p : Nat) (N : Net0) (K : List Nat) (hN : NetAt w p N K) (k : Int) :
    Calls Try.prog 41 #[.pointer (some ⟨p, 0, none⟩), .int .i64 k] w fun e w' => e = .returned (.int .i64 (wipe0 N k).2) ∧ NetTo w w' p (wipe0 N k).1 K := by
  obtain ⟨G, hGp, hG, hS, hK, hGN⟩ := id hN
  obtain ⟨A1, c1', hv⟩ := G.way.val_slice hG.way
  have hp := hS.head
  have hm := hS.tail.head
  simp only [NetG.obj, hv, hGp] at hp
  have hlt : p < w.heap.size := (Array.getElem?_eq_some_iff.1 hp).1
  obtain ⟨c0, c1, c2, c3, c4, f0, f1, f2, f3, f4⟩ := blk5 hp
  have hnn : N.nodes = G.nodes := by rw [← hGN]; rfl
  by_cases h1 : nodeB N k = true
  · have hd1 : decide (1 ≤ k ∧ k ≤ G.nodes) = true := by simpa [nodeB, hnn] using h1
    have hk : 1 ≤ k ∧ k ≤ G.nodes := by simpa using hd1
    have hwk : (Lit.int .i64 k).wf = true := WalkArith.wf_i64 (by have := hG.nodes; omega)
    obtain ⟨A2, c2', hv2⟩ := (G.bx k).val_slice (hG.box k)
    have hl := map_look hG.map hm k hwk
    simp only [hv2] at hl
    have hl2 := map_look (w := w.drew) hG.map hm k hwk
    simp only [hv2] at hl2
    have hpm : p ≠ G.mb := by
      have := hS.notin
      rw [hGp] at this
      simp only [List.map_cons, List.mem_cons, not_or] at this
      exact this.1
    have e0 : wipe0 N k = ({ N with lost := wrap64 (G.lost + (G.bx k).ds.length), box := upd0 N.box k [] }, 0) := by
      have e1 : (N.box k).length = (G.bx k).ds.length := by rw [← hGN]; simp [NetG.abs]
      have e2 : N.lost = G.lost := by rw [← hGN]; rfl
      simp [wipe0, h1, e1, e2]
    rw [e0]
    have hdel : ∀ W : World, W.heap[G.mb]? = some (.map G.es G.clock) → ∀ ty, ∃ es' clock' w', (Builtin.delete_ #[77, 3] ty #[.map (some G.mb), .int .i64 k]).run Try.prog W = .ok (.tuple #[]) w' ∧ w'.heap[G.mb]? = some (.map es' clock') ∧ MapOf es' clock' G.sz (updV (fun j => (G.bx j).val) k nilRow) ∧ Only W w' [G.mb] := fun W h ty => map_delete hG.map h k hwk ty
    obtain ⟨W1, hW1⟩ : ∃ W1, W1 = (w.setCell ⟨p, 4, none⟩ (.int .i64 (wrap64 (G.lost + (G.bx k).ds.length)))).drew := ⟨_, rfl⟩
    have ho1 : Only w W1 [p] := by rw [hW1]; exact (Only.setCell w ⟨p, 4, none⟩ (.int .i64 (wrap64 (G.lost + (G.bx k).ds.length)))).trans (Only.drew _ []) (by simp)
    have hm1 : W1.heap[G.mb]? = some (.map G.es G.clock) := (ho1.block G.mb (Array.getElem?_eq_some_iff.1 hm).1 (by simpa using hpm.symm)).trans hm
    have hp1 : W1.heap[p]? = some (.cells #[.int .i64 G.nodes, .int .u64 G.next, .slice A1 G.way.ds.length c1', .map (some G.mb), .int .i64 (wrap64 (G.lost + (G.bx k).ds.length))] 79 (0, 0)) := by
      rw [hW1]
      refine (heap_setCell hp 4 _).trans ?_
      rfl
    obtain ⟨y0, y1, y2, y3, y4, z0, z1, z2, z3, z4⟩ := blk5 hp1
    obtain ⟨es', clock', w5, hrun, hb5, hm5, ho5⟩ := hdel W1 hm1 0
    go_enter Try.func41, Try.ntmps41
    go_wp2_with (go_at_call 34; refine (node_c _ p _ G.nodes c0).mono ?_; rw [hd1]; rintro e w2 ⟨rfl, rfl⟩)
    go_region
    rw [← hW1]
    clear hW1
    go_wp2_with (at_delete; refine wpList_delete_by rfl _ _ _ _ rfl _ _ rfl rfl _ _ hrun ?_)
    go_ret
    refine ⟨rfl, ?_⟩
    have hS1 := NetG.setNet (w := w2) (w' := W1) (G' := { G with lost := wrap64 (G.lost + (G.bx k).ds.length) }) hS (hGp ▸ ho1) rfl rfl rfl rfl rfl rfl rfl (by
      rw [hGp, hp1]
      simp [NetG.obj, hv])
    have hlw : -9223372036854775808 ≤ wrap64 (G.lost + (G.bx k).ds.length) ∧ wrap64 (G.lost + (G.bx k).ds.length) ≤ 9223372036854775807 := by unfold wrap64; omega
    have wr : noRow.wf := ⟨fun _ => ⟨rfl, rfl⟩, by simp, by simp, by simp⟩
    obtain ⟨v1, v2, v3⟩ := box_swap (G := { G with lost := wrap64 (G.lost + (G.bx k).ds.length) }) (r' := noRow) (l := (G.bx k).items) (sz := G.sz) { hG with lost := hlw } hS1 hk wr (by simp) (by simp [Row.items, Row.own]) hm5 ho5 hb5
    have hkk : NetG.keys { G with lost := wrap64 (G.lost + (G.bx k).ds.length) } = G.keys := rfl
    have hpK : p ∈ G.keys := by rw [← hGp]; simp [NetG.keys, NetG.items]
    have hmK : G.mb ∈ G.keys := by simp [NetG.keys, NetG.items]
    have hfin := netTo_of (w := w2) (G := G) (by rfl) v1 v2.right (fun y hy => .inl (hkk ▸ v3 y (by rw [List.map_append]; exact List.mem_append_right _ hy))) ((ho1.weaken (ks2 := G.keys) (by simp [hpK])).trans ho5 (by simp [hmK]))
    have hab : NetG.abs { ({ G with lost := wrap64 (G.lost + (G.bx k).ds.length) } : NetG) with bx := updR G.bx k noRow, es := es', clock := clock', sz := G.sz } = { N with lost := wrap64 (G.lost + (G.bx k).ds.length), box := upd0 N.box k [] } := by
      rw [← hGN]
      simp only [NetG.abs, Net0.mk.injEq, true_and, and_true]
      funext j
      show (updR G.bx k noRow j).ds.map Dg.abs = _
      unfold updR upd0
      by_cases e : j = k
      · rw [if_pos e, if_pos e]; rfl
      · rw [if_neg e, if_neg e]
    rw [hGp, hK] at hfin
    rw [← hab]
    exact hfin
  · have e0 : wipe0 N k = (N, 90) := by simp only [Bool.not_eq_true] at h1; simp [wipe0, h1]
    rw [e0]
    have hd1 : decide (1 ≤ k ∧ k ≤ G.nodes) = false := by simpa [nodeB, hnn] using h1
    go_enter Try.func41, Try.ntmps41
    go_wp2_with (go_at_call 34; refine (node_c _ p _ G.nodes c0).mono ?_; rw [hd1]; rintro e w2 ⟨rfl, rfl⟩)
    go_ret
    exact ⟨rfl, .refl hN⟩
end Go.Proofs.Ytehgneiiajpgpaa
