/- dgram: Deliver. -/
import Derived.Test.YtehgneiiajpgpaaDgK
import Derived.WalkArith
import Derived.Deep.RegionHeld3
import Derived.Deep.DrawnRows
namespace Go.Proofs.Ytehgneiiajpgpaa
open Go.RowKit Go.Maps
set_option linter.all false
attribute [local go_sem ↓] Go.wp_at_zero Go.wp_at_succ

def upd0 (f : Int → List D0) (k : Int) (l : List D0) : Int → List D0 := fun x => if x = k then l else f x
def deliver0 (N : Net0) (i : Int) : Net0 × Int := match at0 N i with
  | none => (N, 92)
  | some d => if 64 ≤ (N.box d.t).length then ({ N with way := N.way.eraseIdx i.toNat, lost := wrap64 (N.lost + 1) }, 0)
    else ({ N with way := N.way.eraseIdx i.toNat, box := upd0 N.box d.t (N.box d.t ++ [d]), ops := N.ops + 1 }, 0)
theorem map_eraseIdx0 {α β : Type} (f : α → β) : ∀ (l : List α) (i : Nat), (l.eraseIdx i).map f = (l.map f).eraseIdx i
  | [], _ => rfl
  | x :: l, 0 => rfl
  | x :: l, i + 1 => by simp [map_eraseIdx0 f l i]
theorem without_keys {G : NetG} {g k : Nat} {d : Dg} (hg : G.way.g = some g) (hd : G.way.ds[k]? = some d) : ∀ x ∈ NetG.keys { G with way := G.way.without k }, x ∈ G.keys := by
  intro x hx
  have h1 := (items_without hd).map (·.1)
  simp only [NetG.keys, NetG.items, NetG.boxItems, Row.items, Row.without, Row.own, List.map_cons, List.map_append, List.mem_cons, List.mem_append] at hx ⊢
  rcases hx with h | h | (h | h) | h
  · exact .inl h
  · exact .inr (.inl h)
  · refine .inr (.inr (.inl (.inl ?_)))
    rw [hg] at h ⊢
    simpa using h
  · refine .inr (.inr (.inl (.inr (h1.mem_iff.2 ?_))))
    rw [List.map_append]
    exact List.mem_append_right _ h
  · exact .inr (.inr (.inr h))
set_option maxHeartbeats 2000000 in
set_option maxRecDepth 100000 in
theorem deliver_c (w : World) (p : Nat) (N : Net0) (K : List Nat) (hN : NetAt w p N K) (i : Int) (hops : N.ops < 1000000) :
    Calls Try.prog 18 #[.pointer (some ⟨p, 0, none⟩), .int .i64 i] w fun e w' => e = .returned (.int .i64 (deliver0 N i).2) ∧ NetTo w w' p (deliver0 N i).1 K := by
  obtain ⟨G, hGp, hG, hS, hK, hGN⟩ := id hN
  obtain ⟨A1, c1', hv⟩ := G.way.val_slice hG.way
  have hp := hS.head
  simp only [NetG.obj, hv, hGp] at hp
  obtain ⟨c0, c1, c2, c3, c4, f0, f1, f2, f3, f4⟩ := blk5 hp
  have hh := has_c w p i G.way.ds.length A1 c1' hG.wlen c2
  have hl : (G.abs.way.length : Int) = G.way.ds.length := by simp [NetG.abs]
  cases ha : at0 N i with
  | none =>
    have e0 : deliver0 N i = (N, 92) := by simp [deliver0, ha]
    rw [e0]
    rw [if_pos (by have := at0_none.1 ha; rw [← hGN] at this; omega)] at hh
    go_enter Try.func18, Try.ntmps18
    go_wp2_with (go_at_call 37; refine hh.mono ?_; rintro e w2 ⟨rfl, rfl⟩)
    go_ret
    exact ⟨rfl, .refl hN⟩
  | some x =>
    rw [if_neg (by have h1 := mt at0_none.2 (by rw [ha]; simp); rw [← hGN] at h1; omega)] at hh
    have ha' := ha
    rw [← hGN] at ha'
    obtain ⟨i0, i1, d, hd, hdx, hdw, g, hg, hgb⟩ := way_at hG hS ha'
    obtain ⟨k, rfl⟩ : ∃ k : Nat, i = k := ⟨i.toNat, by omega⟩
    have hd' : G.way.ds[k]? = some d := by simpa using hd
    have hto := hG.to d (List.mem_of_getElem? hd)
    have hout := out_c w p G hGp hG hS k d hd'
    obtain ⟨G1, hG1⟩ : ∃ G1, G1 = ({ G with way := G.way.without k } : NetG) := ⟨_, rfl⟩
    have hG1w : G1.wf := by
      rw [hG1]
      have hlk : k < G.way.ds.length := by omega
      refine { hG with way := Row.without_wf hG.way hlk, wlen := ?_, to := fun y hy => hG.to y (List.mem_of_mem_eraseIdx hy) }
      have := List.length_eraseIdx_le (l := G.way.ds) (i := k)
      exact Nat.le_trans this hG.wlen
    obtain ⟨A2, c2', hv2⟩ := (G.bx d.t).val_slice (hG.box d.t)
    have hlen := hG.blen d.t
    have hbx : (N.box x.t).length = (G.bx d.t).ds.length := by rw [← hGN, ← hdx]; simp [NetG.abs, Dg.abs]
    obtain ⟨Aw, cw, hvw⟩ := G1.way.val_slice hG1w.way
    rw [← hG1] at hout
    have hwk : (Lit.int .i64 d.t).wf = true := WalkArith.wf_i64 (by have := hG.nodes; omega)
    have hkey : ∀ (w3 W : World), Sep w3 (d.items ++ G1.items) → Only w3 W [] →
        W.heap[p]? = some (.cells #[.int .i64 G.nodes, .int .u64 G.next, .slice Aw G1.way.ds.length cw, .map (some G.mb), .int .i64 G.lost] 79 (0, 0)) ∧ W.heap[G.mb]? = some (.map G.es G.clock) := by
      intro w3 W hS3 ho
      have hS4 := (hS3.only ho (fun _ _ => by simp)).right
      have h1 := hS4.head
      have h2 := hS4.tail.head
      simp only [NetG.obj, hvw] at h1
      rw [hG1] at h1 h2
      rw [← hGp]
      exact ⟨by rw [hG1]; exact h1, h2⟩
    have hlook : ∀ (W : World), W.heap[G.mb]? = some (.map G.es G.clock) → (Instr.lookup 77 (.map (some G.mb)) (.int .i64 d.t) false).run Try.prog W = .ok (.slice A2 (G.bx d.t).ds.length c2') W := fun W hW => by
      rw [← hv2]
      exact map_look hG.map hW d.t hwk
    by_cases hfull : 64 ≤ (G.bx d.t).ds.length
    · have e0 : deliver0 N k = ({ N with way := N.way.eraseIdx k, lost := wrap64 (N.lost + 1) }, 0) := by
        simp [deliver0, ha, hbx, hfull]
      rw [e0]
      go_enter Try.func18, Try.ntmps18
      go_wp2_with (first | (go_at_call 37; refine hh.mono ?_; rintro e w2 ⟨rfl, rfl⟩) | (go_at_call 38; refine hout.mono ?_; rintro e w3 ⟨A, n, c, hdv, rfl, hS3, ho3⟩))
      obtain ⟨q1, q2⟩ := hkey w3 (w3.alloc (.cells #[.int .i64 d.f, .int .i64 d.t, .int .u64 d.n, .slice A n c, .bool d.sp] 54)).drew hS3 ((Only.alloc w3 _ []).trans (Only.drew _ []) (by simp))
      obtain ⟨y0, y1, y2, y3, y4, z0, z1, z2, z3, z4⟩ := blk5 q1
      have hlk := hlook _ q2
      go_region
      go_wp2
      go_ret
      refine ⟨rfl, ?_⟩
      have hSa : Sep (w3.alloc (.cells #[.int .i64 d.f, .int .i64 d.t, .int .u64 d.n, .slice A n c, .bool d.sp] 54)) G1.items := hS3.right.only (Only.alloc w3 _ []) (fun _ _ => by simp)
      have hGp1 : G1.p = G.p := by rw [hG1]
      have hlw : -9223372036854775808 ≤ wrap64 (G.lost + 1) ∧ wrap64 (G.lost + 1) ≤ 9223372036854775807 := by unfold wrap64; omega
      have hS5 := NetG.setNet (G' := { G1 with lost := wrap64 (G.lost + 1) }) hSa (Only.setCell (w3.alloc (.cells #[.int .i64 d.f, .int .i64 d.t, .int .u64 d.n, .slice A n c, .bool d.sp] 54)) ⟨G1.p, 4, none⟩ (.int .i64 (wrap64 (G.lost + 1)))) rfl rfl rfl rfl rfl rfl rfl (by
        have h1 := hSa.head
        simp only [NetG.obj, hvw] at h1
        rw [heap_setCell h1]
        simp [NetG.obj, hvw])
      have hfin := netTo_of (w := w2) (w' := ((w3.alloc (.cells #[.int .i64 d.f, .int .i64 d.t, .int .u64 d.n, .slice A n c, .bool d.sp] 54)).setCell ⟨G1.p, 4, none⟩ (.int .i64 (wrap64 (G.lost + 1)))).drew) (G := G) (G' := { G1 with lost := wrap64 (G.lost + 1) }) hGp1 { hG1w with lost := hlw } (hS5.only (Only.drew _ []) (fun _ _ => by simp)) (fun y hy => .inl (without_keys hg hd' y (by rw [← hG1]; exact hy))) (((ho3.trans (Only.alloc w3 _ []) (by simp)).trans (Only.setCell _ _ _) (by simp [hGp1, NetG.keys, NetG.items])).trans (Only.drew _ []) (by simp))
      have hab : NetG.abs { G1 with lost := wrap64 (G.lost + 1) } = { N with way := N.way.eraseIdx k, lost := wrap64 (N.lost + 1) } := by
        rw [← hGN, hG1]
        simp [NetG.abs, Row.without, map_eraseIdx0]
      rw [hab, hGp1, hGp, hK] at hfin
      exact hfin
    · have e0 : deliver0 N k = ({ N with way := N.way.eraseIdx k, box := upd0 N.box x.t (N.box x.t ++ [x]), ops := N.ops + 1 }, 0) := by
        simp [deliver0, ha, hbx, hfull]
      rw [e0]
      have hfi : ¬ ((64 : Int) ≤ ((G.bx d.t).ds.length : Int)) := by omega
      go_enter Try.func18, Try.ntmps18
      go_wp2_with (first | (go_at_call 37; refine hh.mono ?_; rintro e w2 ⟨rfl, rfl⟩) | (go_at_call 38; refine hout.mono ?_; rintro e w3 ⟨A, n, c, hdv, rfl, hS3, ho3⟩))
      obtain ⟨q1, q2⟩ := hkey w3 (w3.alloc (.cells #[.int .i64 d.f, .int .i64 d.t, .int .u64 d.n, .slice A n c, .bool d.sp] 54)).drew hS3 ((Only.alloc w3 _ []).trans (Only.drew _ []) (by simp))
      obtain ⟨y0, y1, y2, y3, y4, z0, z1, z2, z3, z4⟩ := blk5 q1
      have hlk := hlook _ q2
      go_region
      go_wp2
      obtain ⟨wa, hwa⟩ : ∃ wa, wa = (w3.alloc (.cells #[.int .i64 d.f, .int .i64 d.t, .int .u64 d.n, .slice A n c, .bool d.sp] 54)).drew := ⟨_, rfl⟩
      rw [← hwa]
      have oa : Only w3 wa [] := by rw [hwa]; exact (Only.alloc w3 _ []).trans (Only.drew _ []) (by simp)
      have hSa : Sep wa (d.items ++ G1.items) := hS3.only oa (fun _ _ => by simp)
      have hloc : wa.heap[w3.heap.size]? = some (.cells #[.int .i64 d.f, .int .i64 d.t, .int .u64 d.n, .slice A n c, .bool d.sp] 54 (0, 0)) := by
        rw [hwa]; exact heap_alloc_new w3 _
      have hlt3 : ∀ W, Only wa W [] → ∀ k, k < wa.heap.size → W.heap[k]? = wa.heap[k]? := fun W h k hk => h.block k hk (by simp)
      have hall : ∀ (W : World), W.heap[p]? = wa.heap[p]? → W.heap[w3.heap.size]? = wa.heap[w3.heap.size]? →
          W.cell? ⟨p, 3, none⟩ = some (.map (some G.mb)) ∧ W.cell? ⟨w3.heap.size, 0, none⟩ = some (.int .i64 d.f) ∧ W.cell? ⟨w3.heap.size, 1, none⟩ = some (.int .i64 d.t) ∧ W.cell? ⟨w3.heap.size, 2, none⟩ = some (.int .u64 d.n) ∧ W.cell? ⟨w3.heap.size, 3, none⟩ = some (.slice A n c) ∧ W.cell? ⟨w3.heap.size, 4, none⟩ = some (.bool d.sp) := by
        intro W e1 e3
        rw [hloc] at e3
        have hpW := e1.trans ((hkey w3 wa hS3 oa).1)
        obtain ⟨a0, a1, a2, a3, a4, _⟩ := blk5 hpW
        obtain ⟨b0, b1, b2, b3, b4, _⟩ := blk5 e3
        exact ⟨a3, b0, b1, b2, b3, b4⟩
      have hlta : p < wa.heap.size ∧ G.mb < wa.heap.size ∧ w3.heap.size < wa.heap.size := ⟨(Array.getElem?_eq_some_iff.1 (hkey w3 wa hS3 oa).1).1, (Array.getElem?_eq_some_iff.1 (hkey w3 wa hS3 oa).2).1, (Array.getElem?_eq_some_iff.1 hloc).1⟩
      have hallO := fun W (h : Only wa W []) => hall W (h.block p hlta.1 (by simp)) (h.block _ hlta.2.2 (by simp))
      have hboxk : ∀ g, (G.bx d.t).g = some g → wa.heap[g]? = some (G.bx d.t).obj ∧ g ≠ p ∧ g ≠ G.mb ∧ g ≠ w3.heap.size := by
        intro g hgg
        have hmem : (g, (G.bx d.t).obj) ∈ G1.boxItems := by
          rw [hG1]
          simp only [NetG.boxItems]
          exact List.mem_flatMap.2 ⟨d.t, mem_keysTo.2 ⟨hto.1, by have := hto.2; have := hG.nodes; omega⟩, by simp [Row.items, Row.own_of hgg]⟩
        have hm2 : g ∈ (G1.boxItems).map (·.1) := List.mem_map_of_mem (f := (·.1)) hmem
        refine ⟨hSa.block (by simp only [NetG.items, List.mem_append, List.mem_cons]; exact .inr (.inr (.inr (.inr hmem)))), ?_, ?_, ?_⟩
        · rintro rfl
          have := hSa.right.notin
          rw [hG1] at this hm2
          simp only [List.map_cons, List.map_append, List.mem_cons, List.mem_append, not_or] at this
          exact this.2.2 (hGp ▸ hm2)
        · rintro rfl
          have := hSa.right.tail.notin
          rw [hG1] at this hm2
          simp only [List.map_append, List.mem_append, not_or] at this
          exact this.2 hm2
        · rintro rfl
          have := hS3.lt w3.heap.size (by
            simp only [NetG.items, List.map_append, List.map_cons, List.mem_append, List.mem_cons]
            exact .inr (.inr (.inr (.inr hm2))))
          omega
      have hgbW : ∀ W, Only wa W [] → ∀ g, (G.bx d.t).g = some g → W.heap[g]? = some (G.bx d.t).obj := fun W h g hgg => by
        have h1 := (hboxk g hgg).1
        rw [h.block g (Array.getElem?_eq_some_iff.1 h1).1 (by simp)]
        exact h1
      have hnew : ∀ (W : World) j u, d.cells[j]? = some u → (W.alloc (.cells #[.int .i64 d.f, .int .i64 d.t, .int .u64 d.n, .slice A n c, .bool d.sp] 54)).drew.cell? ((⟨W.heap.size, 0, none⟩ : Addr).add j) = some u := by
        intro W j u hj
        rw [Addr.add_lit]
        simp only [Dg.cells, hdv] at hj
        have := World.cell?_alloc_new (w := W) #[.int .i64 d.f, .int .i64 d.t, .int .u64 d.n, .slice A n c, .bool d.sp] 54 (0 + j)
        rw [Nat.zero_add] at this ⊢
        exact this.trans (by simpa using hj)
      have hafter : ∀ (Wb w4 : World) (r' : Row), Only wa Wb [] → ((∃ g, (G.bx d.t).g = some g ∧ r'.g = some g ∧ w4.heap[g]? = some r'.obj ∧ Only Wb w4 [g]) ∨ (∃ g, Wb.heap.size ≤ g ∧ r'.g = some g ∧ w4.heap[g]? = some r'.obj ∧ Only Wb w4 [])) →
          w4.heap[p]? = wa.heap[p]? ∧ w4.heap[G.mb]? = wa.heap[G.mb]? ∧ w4.heap[w3.heap.size]? = wa.heap[w3.heap.size]? := by
        intro Wb w4 r' hb h4
        have hz := hb.size
        rcases h4 with ⟨g, hgg, _, _, h4⟩ | ⟨g, _, _, _, h4⟩
        · obtain ⟨_, n1, n2, n3⟩ := hboxk g hgg
          refine ⟨?_, ?_, ?_⟩
          · rw [h4.block p (by omega) (by simpa using n1.symm), hb.block p hlta.1 (by simp)]
          · rw [h4.block G.mb (by omega) (by simpa using n2.symm), hb.block G.mb hlta.2.1 (by simp)]
          · rw [h4.block w3.heap.size (by omega) (by simpa using n3.symm), hb.block w3.heap.size hlta.2.2 (by simp)]
        · refine ⟨?_, ?_, ?_⟩
          · rw [h4.block p (by omega) (by simp), hb.block p hlta.1 (by simp)]
          · rw [h4.block G.mb (by omega) (by simp), hb.block G.mb hlta.2.1 (by simp)]
          · rw [h4.block w3.heap.size (by omega) (by simp), hb.block w3.heap.size hlta.2.2 (by simp)]
      have hpm : p ≠ G.mb := by
        have := hS.notin
        rw [hGp] at this
        simp only [List.map_cons, List.mem_cons, not_or] at this
        exact this.1
      have hlm : w3.heap.size ≠ G.mb := by
        have := hS3.lt G.mb (by rw [hG1]; simp [NetG.items])
        omega
      have hafter2 : ∀ (w4 w5 : World), w4.heap[p]? = wa.heap[p]? → w4.heap[w3.heap.size]? = wa.heap[w3.heap.size]? → Only w4 w5 [G.mb] → w5.heap[p]? = wa.heap[p]? ∧ w5.heap[w3.heap.size]? = wa.heap[w3.heap.size]? := by
        intro w4 w5 h1 h2 h3
        have l1 : p < w4.heap.size := by
          rw [(hkey w3 wa hS3 oa).1] at h1
          exact (Array.getElem?_eq_some_iff.1 h1).1
        have l2 : w3.heap.size < w4.heap.size := by
          rw [hloc] at h2
          exact (Array.getElem?_eq_some_iff.1 h2).1
        exact ⟨(h3.block _ l1 (by simpa using hpm)).trans h1, (h3.block _ l2 (by simpa using hlm)).trans h2⟩
      have ox : Only wa (wa.alloc (.cells #[.int .i64 d.f, .int .i64 d.t, .int .u64 d.n, .slice A n c, .bool d.sp] 54)).drew [] := (Only.alloc wa _ []).trans (Only.drew _ []) (by simp)
      have hsz : G.sz < maxLen := by
        have : G.sz = N.ops := by rw [← hGN]; rfl
        have hm : 1000000 ≤ maxLen := by decide
        omega
      have hput : ∀ w4, w4.heap[G.mb]? = wa.heap[G.mb]? → ∀ v, ∃ es' clock' w', (Instr.mapUpdate 77 (.map (some G.mb)) (.int .i64 d.t) v).run Try.prog w4 = .ok () w' ∧ w'.heap[G.mb]? = some (.map es' clock') ∧ MapOf es' clock' (G.sz + 1) (updV (fun j => (G.bx j).val) d.t v) ∧ Only w4 w' [G.mb] := fun w4 h4 v => map_store hG.map (h4.trans (hkey w3 wa hS3 oa).2) hsz d.t hwk v
      have hl1 := hlook wa (hkey w3 wa hS3 oa).2
      have hl2 := hlook wa.drew (hkey w3 wa hS3 oa).2
      have hl3 := hlook _ ((ox.block G.mb hlta.2.1 (by simp)).trans (hkey w3 wa hS3 oa).2)
      clear hlk y0 y1 y2 y3 y4 z0 z1 z2 z3 z4 hwa
      go_region_held3 (fun W => W.cell? ⟨p, 3, none⟩ = some (.map (some G.mb)) ∧ W.cell? ⟨w3.heap.size, 0, none⟩ = some (.int .i64 d.f) ∧ W.cell? ⟨w3.heap.size, 1, none⟩ = some (.int .i64 d.t) ∧ W.cell? ⟨w3.heap.size, 2, none⟩ = some (.int .u64 d.n) ∧ W.cell? ⟨w3.heap.size, 3, none⟩ = some (.slice A n c) ∧ W.cell? ⟨w3.heap.size, 4, none⟩ = some (.bool d.sp))
        (first | exact hallO _ (Only.drew _ []) | exact hallO _ ox | exact hallO _ (Only.alloc wa _ []) | exact hall _ t1 t3 | exact hall _ u1 u3)
        ((refine step_append_row (by rfl) _ _ (by rfl) (G.bx d.t) d _ (by rfl) hv2.symm _ _ (by rfl) (hG.box d.t) hdw (hgbW _ ox) (hnew wa) (by omega) ?_; intro r' w4 A4 n4 c4' s0 s1 s2 s3; obtain ⟨t1, t2, t3⟩ := hafter _ _ _ ox s3; obtain ⟨es', clock', w5, hst, hb5, hm5, ho5⟩ := hput _ t2 (.slice A4 n4 c4'); obtain ⟨u1, u3⟩ := hafter2 _ _ t1 t3 ho5))
      all_goals (
        go_wp2
        go_ret
        refine ⟨rfl, ?_⟩
        rw [← s0] at hm5
        subst hG1
        have hbc := box_close (w := wa) (G := { G with way := G.way.without k }) hG1w hSa hdw hto (by show (G.bx d.t).ds.length < 64; omega) ox s1 s2 s3 hm5 ho5 hb5
        obtain ⟨v1, v2, v3, v4⟩ := hbc
        have hsub : ∀ y ∈ (d.items ++ NetG.items { G with way := G.way.without k }).map (·.1), y ∈ G.keys := by
          intro y hy
          rw [List.map_append, List.mem_append] at hy
          rcases hy with hy | hy
          · simp only [NetG.keys, NetG.items, Row.items, List.map_cons, List.map_append, List.mem_cons, List.mem_append]
            refine .inr (.inr (.inl (.inr (((items_without hd').map (·.1)).mem_iff.2 ?_))))
            rw [List.map_append]
            exact List.mem_append_left _ hy
          · exact without_keys hg hd' y hy
        have o5 : Only w2 wa G.keys := ho3.trans oa (by simp)
        have hfin := netTo_of (w := w2) (G := G) (by rfl) v1 v2 (fun y hy => (v4 y hy).elim (fun h => .inl (hsub y h)) (fun h => .inr (Nat.le_trans o5.size h))) (o5.trans (v3.weaken (ks2 := G.keys) (fun y hy => .inl (hsub y hy))) (fun y hy => .inl hy))
        have hab : NetG.abs { ({ G with way := G.way.without k } : NetG) with bx := updR G.bx d.t r', es := es', clock := clock', sz := G.sz + 1 } = { N with way := N.way.eraseIdx k, box := upd0 N.box x.t (N.box x.t ++ [x]), ops := N.ops + 1 } := by
          rw [← hGN, ← hdx]
          simp only [NetG.abs, Row.without, map_eraseIdx0, Net0.mk.injEq, true_and, and_true]
          funext j
          show (updR G.bx d.t r' j).ds.map Dg.abs = _
          unfold updR upd0
          by_cases e : j = d.t
          · subst e
            simp [s1, Dg.abs]
          · rw [if_neg e, if_neg (by simpa [Dg.abs] using e)]
        rw [hGp, hK] at hfin
        rw [← hab]
        exact hfin)
end Go.Proofs.Ytehgneiiajpgpaa
