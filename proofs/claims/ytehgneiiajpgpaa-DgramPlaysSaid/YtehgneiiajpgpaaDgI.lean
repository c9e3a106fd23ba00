/- dgram: out, walked. -/
import Derived.Test.YtehgneiiajpgpaaDgH
namespace Go.Proofs.Ytehgneiiajpgpaa
open Go.RowKit Go.Maps
set_option linter.all false

theorem step_copy_wide {P : Program} {ops : Array Oper} {o : Oper} {a : Act} {w : World} {K : Act → World → Prop} {Q : Exit → Act → World → Prop} {E : Prop} (hgd : o.guard = none) (d s : Operand) (dT sT : TypeId)
    (ho : o.op = .call { callee := .builtin .copy, args := #[d, s], argTypes := #[dT, sT] }) (elem : TypeId) (sz : Nat) (hu : P.underlying dT = some (.slice elem)) (hsz : (P.info? elem).map (·.size) = some sz)
    (g off dLen dCap : Nat) (ad : Addr) (sLen sCap : Nat) (hd : a.eval d = .slice (some ⟨g, off, none⟩) dLen dCap) (hs : a.eval s = .slice (some ad) sLen sCap)
    (cur : Array Value) (t : TypeId) (hg : w.heap[g]? = some (.cells cur t (0, 0))) (cs : List Value) (hn : cs.length = Nat.min sLen dLen * sz)
    (hsrc : ∀ j v, cs[j]? = some v → w.cell? (ad.add j) = some v) (hfit : off + cs.length ≤ cur.size) (h1 : ∀ v ∈ cs, v.oneCell' = true)
    (h : ∀ w', Only w w' [g] → w'.heap[g]? = some (.cells (cur.toList.take off ++ cs ++ cur.toList.drop (off + cs.length)).toArray t (0, 0)) → K (a.put o.dst (goInt (Nat.min sLen dLen))) w') :
    if Region.wanted o (yielded ops a.tmps) = true then Oper.wp P o a w K Q else E := by
  have hw : Region.wanted o (yielded ops a.tmps) = true := by simp [Region.wanted, hgd]
  rw [if_pos hw]
  have hrun := run_copy_wide (P := P) w dT sT o.type elem sz g off dLen dCap ad sLen sCap cur t cs hu hsz hg hn hsrc hfit h1
  unfold Oper.wp
  simp [execOp, ho, resolve, invoke, builtin, hd, hs, hrun, Result.andThen]
  have h' := h (w.setRow g (cur.toList.take off ++ cs ++ cur.toList.drop (off + cs.length)).toArray) (Only.setRow w g _) (setRow_heap w g _ _ _ _ hg)
  simp only [List.append_assoc] at h'
  exact h'
theorem Sep.putBut {w w' : World} {g : Nat} {o o' : Obj} {l : List Item} {ks : List Nat} (h : Sep w ((g, o) :: l)) (ho : Only w w' ks) (hn : ∀ k ∈ l.map (·.1), k ∉ ks) (hg : w'.heap[g]? = some o') : Sep w' ((g, o') :: l) :=
  ⟨h.1, fun x hx => by
    rcases List.mem_cons.1 hx with rfl | hx
    · exact hg
    · exact (h.tail.only ho hn).2 x hx⟩
theorem items_without {l : List Dg} {i : Nat} {d : Dg} (h : l[i]? = some d) : (l.flatMap Dg.items).Perm (d.items ++ (l.eraseIdx i).flatMap Dg.items) := by
  have hi : i < l.length := (List.getElem?_eq_some_iff.1 h).1
  have e : l[i] = d := (List.getElem?_eq_some_iff.1 h).2
  have h1 : l = l.take i ++ d :: l.drop (i + 1) := by
    rw [← e, ← List.drop_eq_getElem_cons hi, List.take_append_drop]
  rw [List.eraseIdx_eq_take_drop_succ]
  have h2 : l.flatMap Dg.items = (l.take i).flatMap Dg.items ++ (d.items ++ (l.drop (i + 1)).flatMap Dg.items) := by
    conv => lhs; rw [h1]
    simp
  rw [h2, List.flatMap_append]
  refine perm_by fun _ x => ?_
  simp only [List.count_append]
  omega
/-- Behind a way's being cut. -/
theorem out_close {w w1 w3 w5 : World} {G : NetG} {g i b : Nat} {d : Dg} (hS : Sep w G.items) (hd : G.way.ds[i]? = some d) (hg : G.way.g = some g)
    (o1 : Only w w1 []) (o3 : Only w1 w3 [g]) (g3 : w3.heap[g]? = some (G.way.without i).obj) (o5 : Only w3 w5 [G.p, b]) (hb : w.heap.size ≤ b)
    (h5 : w5.heap[G.p]? = some (NetG.obj { G with way := G.way.without i })) : Sep w5 (d.items ++ NetG.items { G with way := G.way.without i }) ∧ Only w w5 G.keys := by
  have hS1 : Sep w1 G.items := hS.only o1 (fun _ _ => by simp)
  have p1 : G.items.Perm ((g, G.way.obj) :: ((G.p, G.obj) :: (G.mb, .map G.es G.clock) :: (G.way.ds.flatMap Dg.items ++ G.boxItems))) := by
    simp only [NetG.items, Row.items, Row.own_of hg]
    refine perm_by fun _ x => ?_
    simp only [List.count_append, List.count_cons, List.count_nil]
    omega
  have hS3 : Sep w3 ((g, (G.way.without i).obj) :: ((G.p, G.obj) :: (G.mb, .map G.es G.clock) :: (G.way.ds.flatMap Dg.items ++ G.boxItems))) := (hS1.perm p1).put o3 g3
  have hgo : (G.way.without i).g = some g := hg
  have p2 : ((g, (G.way.without i).obj) :: ((G.p, G.obj) :: (G.mb, .map G.es G.clock) :: (G.way.ds.flatMap Dg.items ++ G.boxItems))).Perm ((G.p, G.obj) :: (d.items ++ ((G.mb, .map G.es G.clock) :: ((G.way.without i).items ++ G.boxItems)))) := by
    have hp := items_without hd
    simp only [Row.items, Row.own_of hgo, show (G.way.without i).ds = G.way.ds.eraseIdx i from rfl]
    refine perm_by fun _ x => ?_
    have hc := (List.perm_iff_count.1 hp) x
    simp only [List.count_append, List.count_cons, List.count_nil] at hc ⊢
    omega
  have hkeys : ∀ k ∈ ((g, (G.way.without i).obj) :: ((G.p, G.obj) :: (G.mb, .map G.es G.clock) :: (G.way.ds.flatMap Dg.items ++ G.boxItems))).map (·.1), k ∈ G.keys := by
    intro k hk
    have := (p1.map (·.1)).mem_iff (a := k)
    exact this.2 (by simpa using hk)
  have hS3' := hS3.perm p2
  have hS5 := hS3'.putBut (o' := NetG.obj { G with way := G.way.without i }) o5 (fun k hk => by
    have hne : k ≠ G.p := fun e => hS3'.notin (e ▸ hk)
    have hlt : k < w.heap.size := hS.lt k (hkeys k (((p2.map (·.1)).mem_iff (a := k)).2 (by rw [List.map_cons]; exact List.mem_cons_of_mem _ hk)))
    simp only [List.mem_cons, List.not_mem_nil, or_false, not_or]
    exact ⟨hne, by omega⟩) h5
  have hpk : G.p ∈ G.keys := by simp [NetG.keys, NetG.items]
  have hgk : g ∈ G.keys := hkeys g (by simp)
  refine ⟨hS5.perm ?_, ((o1.weaken (ks2 := G.keys) (fun _ h => by cases h)).trans o3 (by simp [hgk])).trans o5 ?_⟩
  · simp only [NetG.items, NetG.boxItems]
    refine perm_by fun _ x => ?_
    simp only [List.count_append, List.count_cons, List.count_nil]
    omega
  · intro k hk
    simp only [List.mem_cons, List.not_mem_nil, or_false] at hk
    rcases hk with rfl | rfl
    · exact .inl hpk
    · exact .inr hb
set_option maxHeartbeats 1000000 in
set_option maxRecDepth 100000 in
theorem out_c (w : World) (p : Nat) (G : NetG) (hGp : G.p = p) (hG : G.wf) (hS : Sep w G.items) (i : Nat) (d : Dg) (hd : G.way.ds[i]? = some d) :
    Calls Try.prog 38 #[.pointer (some ⟨p, 0, none⟩), .int .i64 i] w fun e w' => ∃ A n c, d.val = .slice A n c ∧ e = .returned (.agg #[.int .i64 d.f, .int .i64 d.t, .int .u64 d.n, .slice A n c, .bool d.sp]) ∧ Sep w' (d.items ++ NetG.items { G with way := G.way.without i }) ∧ Only w w' G.keys := by
  obtain ⟨A1, c1', hv⟩ := G.way.val_slice hG.way
  have hp := hS.head
  simp only [NetG.obj, hv, hGp] at hp
  have hlt : p < w.heap.size := (Array.getElem?_eq_some_iff.1 hp).1
  obtain ⟨c0, c1, c2, c3, c4, f0, f1, f2, f3, f4⟩ := blk5 hp
  have hi : i < G.way.ds.length := (List.getElem?_eq_some_iff.1 hd).1
  obtain ⟨g, hg, hgb⟩ : ∃ g, G.way.g = some g ∧ w.heap[g]? = some G.way.obj := by
    cases hg : G.way.g with
    | none => rw [(hG.way.nil hg).1] at hi; simp at hi
    | some g => exact ⟨g, rfl, hS.block (by simp [NetG.items, Row.items, Row.own_of hg])⟩
  have hval : A1 = some ⟨g, G.way.pre.length, none⟩ := by simp only [Row.val, hg] at hv; simp only [Value.slice.injEq] at hv; exact hv.1.symm
  subst hval
  have hltg : g < w.heap.size := (Array.getElem?_eq_some_iff.1 hgb).1
  obtain ⟨x0, x1, x2, x3, x4⟩ := Row.at hgb i d hd
  obtain ⟨A3, n3, c3', hv3⟩ := d.val_slice
  rw [hv3] at x3
  have hcap : c1' = G.way.ds.length + G.way.k := by simp only [Row.val, hg, Value.slice.injEq] at hv; exact hv.2.2.symm
  have hwl := hG.wlen
  have hcm := hG.way.cap
  have hmx : maxLen ≤ 9223372036854775807 := by decide
  have hw1 : IntKind.i64.wrap ((i : Int) + 1) = (i : Int) + 1 := by simp only [IntKind.wrap, IntKind.signed, IntKind.bits]; simp; omega
  have hn1 : ((i : Int) + 1).toNat = i + 1 := by omega
  have hne : ¬ (G.way.ds.length + G.way.k = i) := by omega
  obtain ⟨A4, hA4, hsrc⟩ : ∃ A, (if G.way.ds.length + G.way.k = i + 1 then some (⟨g, G.way.pre.length, none⟩ : Addr) else some ⟨g, G.way.pre.length + (i + 1) * 5, none⟩) = some A ∧ ∀ j v, (flat (G.way.ds.drop (i + 1)))[j]? = some v → w.cell? (A.add j) = some v := by
    split
    · refine ⟨_, rfl, fun j v hj => ?_⟩
      rw [List.drop_of_length_le (by omega)] at hj
      simp [flat] at hj
    · refine ⟨_, rfl, fun j v hj => ?_⟩
      rw [flat_drop, List.getElem?_drop] at hj
      have := row_cells hgb _ _ hj
      rw [Addr.add_lit] at this ⊢
      rw [← this, Nat.add_assoc]
  have hcs : (flat (G.way.ds.drop (i + 1))).length = Nat.min (G.way.ds.length - (i + 1)) (G.way.ds.length - i) * 5 := by
    rw [flat_len, List.length_drop, show Nat.min (G.way.ds.length - (i + 1)) (G.way.ds.length - i) = G.way.ds.length - (i + 1) from Nat.min_eq_left (by omega)]
  have hw2 : IntKind.i64.wrap ((G.way.ds.length : Int) - 1) = (G.way.ds.length : Int) - 1 := by simp only [IntKind.wrap, IntKind.signed, IntKind.bits]; simp; omega
  have hn2 : ((G.way.ds.length : Int) - 1).toNat = G.way.ds.length - 1 := by omega
  have b7 : (0 : Int) ≤ (G.way.ds.length : Int) - 1 := by omega
  have b8 : (G.way.ds.length : Int) - 1 ≤ (c1' : Int) := by omega
  have b1 : (0 : Int) ≤ (i : Int) := by omega
  have b2 : (i : Int) ≤ (c1' : Int) := by omega
  have b3 : (i : Int) ≤ (G.way.ds.length : Int) := by omega
  have b4 : (i : Int) + 1 ≤ (c1' : Int) := by omega
  have b5 : (i : Int) + 1 ≤ (G.way.ds.length : Int) := by omega
  have b6 : (0 : Int) ≤ (i : Int) + 1 := by omega
  have hga : ∀ o1 o2, ((w.alloc o1).alloc o2).drew.heap[g]? = some G.way.obj := fun o1 o2 => by
    rw [← hgb]; exact (((Only.alloc w o1 []).trans (Only.alloc _ o2 []) (by simp)).trans (Only.drew _ []) (by simp)).block g hltg (by simp)
  have hsa : ∀ o1 o2 j v, (flat (G.way.ds.drop (i + 1)))[j]? = some v → ((w.alloc o1).alloc o2).drew.cell? (A4.add j) = some v := fun o1 o2 j v hj => by
    have hc := hsrc j v hj
    exact (World.cell?_of_block ((((Only.alloc w o1 []).trans (Only.alloc _ o2 []) (by simp)).trans (Only.drew _ []) (by simp)).block _ (World.block_lt_of_cell? _ _ hc) (by simp))).trans hc
  have hpg : p ≠ g := by
    intro e
    have := hS.notin
    simp [hGp, Row.items, Row.own_of hg, e] at this
  have hpa : ∀ o1 o2 w3, Only ((w.alloc o1).alloc o2).drew w3 [g] → w3.heap[p]? = some (.cells #[.int .i64 G.nodes, .int .u64 G.next, .slice (some ⟨g, G.way.pre.length, none⟩) G.way.ds.length c1', .map (some G.mb), .int .i64 G.lost] 79 (0, 0)) := fun o1 o2 w3 h3 => by
    rw [← hp, h3.block p (by simp; omega) (by simp [hpg])]
    exact (((Only.alloc w o1 []).trans (Only.alloc _ o2 []) (by simp)).trans (Only.drew _ []) (by simp)).block p hlt (by simp)
  have hla : ∀ o1 o2 w3, Only ((w.alloc o1).alloc o2).drew w3 [g] → w3.heap[w.heap.size]? = some o1 ∧ w3.heap[w.heap.size + 1]? = some o2 := fun o1 o2 w3 h3 => by
    refine ⟨?_, ?_⟩
    · rw [h3.block _ (by simp; omega) (by simp; omega)]
      exact (Lib.alloc_old _ _ _ (by simp)).trans (heap_alloc_new w _)
    · rw [h3.block _ (by simp) (by simp; omega)]
      have := heap_alloc_new (w.alloc o1) o2
      simpa [World.drew] using this
  have hone : ∀ v ∈ flat (G.way.ds.drop (i + 1)), v.oneCell' = true := flat_one _
  have hfit : G.way.pre.length + i * 5 + (flat (G.way.ds.drop (i + 1))).length ≤ (G.way.pre ++ flat G.way.ds ++ G.way.post).toArray.size := by
    have := flat_len G.way.ds
    rw [flat_len, List.length_drop, List.size_toArray, List.length_append, List.length_append]
    omega
  go_enter Try.func38, Try.ntmps38
  go_wp2
  go_region_law (refine step_copy_wide rfl _ _ _ _ rfl 54 5 Try.underlying41 (by kernel_rfl) _ _ _ _ _ _ _ rfl rfl _ _ (hga _ _) _ hcs (hsa _ _) hfit hone ?_; intro w3 o3 g3; obtain ⟨q1, q2⟩ := hla _ _ _ o3; obtain ⟨y0, y1, y2, y3, y4, z0, z1, z2, z3, z4⟩ := blk5 (hpa _ _ _ o3); obtain ⟨a0, a1, a2, a3, a4, k0, k1, k2, k3, k4⟩ := blk5 q1; obtain ⟨r0, r1, r2, r3, r4, s0, s1, s2, s3, s4⟩ := blk5 q2)
  all_goals go_wp2
  all_goals go_region
  all_goals go_wp2
  all_goals (
    refine bodyPost_ret (v := .agg #[.int .i64 d.f, .int .i64 d.t, .int .u64 d.n, .slice A3 n3 c3', .bool d.sp]) (by simp [results, Try.results38, go_sem, a0, a1, a2, a3, a4]) rfl ?_
    refine ⟨A3, n3, c3', hv3, rfl, ?_⟩
    subst hGp
    refine out_close hS hd hg (((Only.alloc w _ []).trans (Only.alloc _ _ []) (by simp)).trans (Only.drew _ []) (by simp)) o3 ?_ (b := w.heap.size) (((((((Only.setCell w3 ⟨G.p, 2, none⟩ _).weaken (ks2 := [G.p, w.heap.size]) (by simp)).trans (Only.setCell _ ⟨w.heap.size, 0, none⟩ _) (by simp)).trans (Only.setCell _ ⟨w.heap.size, 1, none⟩ _) (by simp)).trans (Only.setCell _ ⟨w.heap.size, 2, none⟩ _) (by simp)).trans (Only.setCell _ ⟨w.heap.size, 3, none⟩ _) (by simp)).trans ((Only.setCell _ ⟨w.heap.size, 4, none⟩ _).trans (Only.drew _ []) (by simp)) (by simp)) (Nat.le_refl _) ?_
    · rw [g3, without_cells G.way i hi]
      simp [Row.obj, Row.without]
    · have hpw := hpa _ _ _ o3
      have ow := (((((Only.setCell (w3.setCell { block := G.p, off := 2 } (Value.slice (some { block := g, off := G.way.pre.length }) (G.way.ds.length - 1) (G.way.ds.length + G.way.k))) ⟨w.heap.size, 0, none⟩ (Value.int IntKind.i64 d.f)).trans (Only.setCell _ ⟨w.heap.size, 1, none⟩ (Value.int IntKind.i64 d.t)) (by simp)).trans (Only.setCell _ ⟨w.heap.size, 2, none⟩ (Value.int IntKind.u64 d.n)) (by simp)).trans (Only.setCell _ ⟨w.heap.size, 3, none⟩ (Value.slice A3 n3 c3')) (by simp)).trans (Only.setCell _ ⟨w.heap.size, 4, none⟩ (Value.bool d.sp)) (by simp)).trans (Only.drew _ []) (by simp)
      rw [ow.block G.p (by have := (Array.getElem?_eq_some_iff.1 hpw).1; simpa [World.setCell] using this) (by simp; omega), heap_setCell hpw]
      have hl : (G.way.ds.eraseIdx i).length = G.way.ds.length - 1 := by rw [List.length_eraseIdx]; simp [hi]
      simp [NetG.obj, Row.val, Row.without, hg, hl]
      omega)
end Go.Proofs.Ytehgneiiajpgpaa
