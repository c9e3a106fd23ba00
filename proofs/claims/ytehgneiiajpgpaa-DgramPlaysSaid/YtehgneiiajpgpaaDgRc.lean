/- dgram: the document's without. -/
import Derived.Test.YtehgneiiajpgpaaDgRb
namespace Go.Proofs.Ytehgneiiajpgpaa
open Go.RowKit
set_option linter.all false
set_option maxHeartbeats 2000000
set_option maxRecDepth 100000

theorem own_bl {W : World} {B : Nat} {e : TypeId} {sz : Nat} {v : Value} {n : Nat} {xs : List Value} (h : W.ownsRow B e sz v n xs) : ∀ b ∈ bl v, B ≤ b ∧ b < W.heap.size := by
  intro b hb
  rcases h.2 with ⟨rfl, _⟩ | ⟨g, cap, cur, rfl, h1, h2, _⟩
  · simp [bl, Value.ownBlock] at hb
  · simp [bl, Value.ownBlock] at hb
    subst hb
    exact ⟨h1, (Array.getElem?_eq_some_iff.1 h2).1⟩
theorem own_only {W W' : World} {B : Nat} {e : TypeId} {sz : Nat} {v : Value} {n : Nat} {xs : List Value} (h : W.ownsRow B e sz v n xs) (ho : Only W W' []) : W'.ownsRow B e sz v n xs := by
  refine ⟨h.1, ?_⟩
  rcases h.2 with hn | ⟨g, cap, cur, rfl, h1, h2, h3⟩
  · exact .inl hn
  · exact .inr ⟨g, cap, cur, rfl, h1, (ho.block g (Array.getElem?_eq_some_iff.1 h2).1 (by simp)).trans h2, h3⟩
/-- append of a row of the document's, as a step of a region that draws. -/
theorem step_append_rr {ops : Array Oper} {o : Oper} {a : Act} {w : World} {K : Act → World → Prop} {Q : Exit → Act → World → Prop} {E : Prop}
    (hg : o.guard = none) (s x : Operand) (hop : o.op = Op.call { callee := Callee.builtin Builtin.append, args := #[s, x], argTypes := #[41, 41] })
    (vs vx : Value) (hs : a.eval s = vs) (hx : a.eval x = vx) (P : Nat → Prop) (B : Nat) (l1 l2 : List (D0 × Value)) (n1 n : Nat) (e1 : n1 = l1.length) (e : l1.length + l2.length = n) (h : w.ownsRow B 54 5 vs n1 (flatR l1)) (h2 : RRow w P vx l2) (hB : B ≤ w.heap.size) (hn : n ≤ 100000)
    (hK : ∀ (A' : Option Addr) (c' : Nat) (w' : World), w'.ownsRow B 54 5 (.slice A' n c') n (flatR (l1 ++ l2)) → Only w w' (bl vs) → K (a.put o.dst (.slice A' n c')) w') :
    if Region.wanted o (yielded ops a.tmps) = true then Oper.wp Try.prog o a w K Q else E := by
  have hw : Region.wanted o (yielded ops a.tmps) = true := by simp [Region.wanted, hg]
  rw [if_pos hw]
  subst e1 e
  obtain ⟨A', c', w', hrun, r1, r2⟩ := rr_append h h2 hB hn o.type
  unfold Oper.wp
  simp [execOp, hop, resolve, invoke, builtin, hs, hx, hrun, Result.andThen]
  rw [List.length_append] at r1
  exact hK A' c' w' r1 r2
theorem RRow.take {w : World} {P : Nat → Prop} {A : Option Addr} {c n : Nat} {l : List (D0 × Value)} (h : RRow w P (.slice A n c) l) (i : Nat) (hi : i ≤ l.length) : RRow w P (.slice A i c) (l.take i) := by
  obtain ⟨⟨A', c', hv, hc, hel⟩, hb⟩ := h
  simp only [Value.slice.injEq] at hv
  obtain ⟨rfl, rfl, rfl⟩ := hv
  refine ⟨⟨A, c, by rw [List.length_take, Nat.min_eq_left hi], ⟨by rw [List.length_take]; omega, hc.2⟩, fun j x hj => ?_⟩, fun x hx => hb x (List.mem_of_mem_take hx)⟩
  rw [List.getElem?_take] at hj
  split at hj
  · exact hel j x hj
  · cases hj
theorem RRow.drop {w : World} {P : Nat → Prop} {A : Option Addr} {c n : Nat} {l : List (D0 × Value)} (h : RRow w P (.slice A n c) l) (i : Nat) (hi : i ≤ l.length) (A2 : Option Addr) (hA : ∀ ad, A = some ad → i < l.length → A2 = some (ad.add (i * 5))) (n2 c2 : Nat) (hn : n2 = l.length - i) (hc2 : n2 ≤ c2 ∧ c2 ≤ maxLen) : RRow w P (.slice A2 n2 c2) (l.drop i) := by
  obtain ⟨⟨A', c', hv, hc, hel⟩, hb⟩ := h
  simp only [Value.slice.injEq] at hv
  obtain ⟨rfl, rfl, rfl⟩ := hv
  subst hn
  refine ⟨⟨A2, c2, by rw [List.length_drop], by rw [List.length_drop]; exact hc2, fun j x hj => ?_⟩, fun x hx => hb x (List.mem_of_mem_drop hx)⟩
  rw [List.getElem?_drop] at hj
  have hlt := (List.getElem?_eq_some_iff.1 hj).1
  obtain ⟨g, off, ha, hP, hcl⟩ := hel (i + j) x hj
  refine ⟨g, off + i * 5, ?_, hP, fun k u hk => ?_⟩
  · rw [hA _ ha (by omega), Addr.add_lit]
  · rw [← hcl k u hk, show off + i * 5 + j * 5 + k = off + (i + j) * 5 + k by omega]
theorem without_c (w : World) (P : Nat → Prop) (v : Value) (l : List (D0 × Value)) (h : RRow w P v l) (i : Nat) (hi : i < l.length) (hl : l.length ≤ 100000) :
    Calls Try.prog 44 #[v, .int .i64 i] w fun e w' => ∃ A c, e = .returned (.slice A (l.length - 1) c) ∧ RRow w' (fun k => P k ∨ w.heap.size ≤ k) (.slice A (l.length - 1) c) (l.eraseIdx i) ∧ Only w w' [] := by
  obtain ⟨⟨A0, c, rfl, hc, hel⟩, hb⟩ := id h
  obtain ⟨x, hx⟩ : ∃ x, l[i]? = some x := ⟨_, List.getElem?_eq_getElem hi⟩
  obtain ⟨g, off, rfl, _, _⟩ := hel i x hx
  have hw1 : IntKind.i64.wrap ((i : Int) + 1) = (i : Int) + 1 := by simp only [IntKind.wrap, IntKind.signed, IntKind.bits]; simp; omega
  have hn1 : ((i : Int) + 1).toNat = i + 1 := by omega
  have hm : maxLen = 9223372036854775807 := rfl
  have hne : ¬ (c = i) := by omega
  have b1 : (0 : Int) ≤ (i : Int) := by omega
  have b2 : (i : Int) ≤ (c : Int) := by omega
  have b3 : (i : Int) ≤ (l.length : Int) := by omega
  have b4 : (i : Int) + 1 ≤ (c : Int) := by omega
  have b5 : (i : Int) + 1 ≤ (l.length : Int) := by omega
  have b6 : (0 : Int) ≤ (i : Int) + 1 := by omega
  obtain ⟨wa, hwa⟩ : ∃ wa, wa = (w.alloc (.cells #[] 54)).drew := ⟨_, rfl⟩
  have oa : Only w wa [] := by rw [hwa]; exact (Only.alloc w _ []).trans (Only.drew _ []) (by simp)
  have hz : wa.heap[w.heap.size]? = some (.cells #[] 54 (0, 0)) := by rw [hwa]; exact heap_alloc_new w _
  have h0 : wa.ownsRow w.heap.size 54 5 (.slice (some ⟨w.heap.size, 0, none⟩) 0 0) 0 (flatR []) := ⟨rfl, .inr ⟨w.heap.size, 0, #[], rfl, Nat.le_refl _, hz, Nat.le_refl _, Nat.zero_le _, rfl, rfl⟩⟩
  have hsa : w.heap.size ≤ wa.heap.size := oa.size
  have hlt : (l.take i).length = i := by rw [List.length_take]; omega
  have hld : (l.drop (i + 1)).length = l.length - (i + 1) := List.length_drop
  have ht : RRow wa P (.slice (some ⟨g, off, none⟩) i c) (l.take i) := (h.only oa).take i (by omega)
  have hdr : ∀ w3, Only wa w3 (bl (.slice (some ⟨w.heap.size, 0, none⟩) 0 0)) → RRow w3 P (.slice (if c = i + 1 then some (⟨g, off, none⟩ : Addr) else some ⟨g, off + (i + 1) * 5, none⟩) (l.length - (i + 1)) (c - (i + 1))) (l.drop (i + 1)) := fun w3 h3 => by
    refine RRow.drop ((h.only (oa.trans h3 (ks := []) (fun k hk => .inr ?_)))) (i + 1) (by omega) _ (fun ad ha hi2 => ?_) _ _ rfl (by omega)
    · simp [bl, Value.ownBlock] at hk
      omega
    · cases ha
      rw [if_neg (by omega), Addr.add_lit]
  have HDR := Aside0.mk hdr
  have HT := Aside0.mk ht
  have H0 := Aside0.mk h0
  have HH := Aside0.mk h
  have HB := Aside0.mk hb
  clear hdr ht h0 hz hel hx h hb
  rw [hwa] at HT H0
  go_enter Try.func44, Try.ntmps44
  go_wp2
  go_region_law (first
    | (refine step_append_rr rfl _ _ rfl _ _ rfl rfl P w.heap.size (l.take i) (l.drop (i + 1)) i (l.length - 1) hlt.symm (by omega) q1 (HDR.out _ (by rw [hwa]; exact q2)) (by have := q2.size; simp only [World.drew, size_alloc'] at this; omega) (by omega) ?_
       intro A2 c2 w4 r1 r2)
    | (refine step_append_rr rfl _ _ rfl _ _ rfl rfl P w.heap.size [] (l.take i) 0 i rfl (by simpa using hlt) H0.out HT.out (by simp [World.drew]) (by omega) ?_
       intro A1 c1 w3 q1 q2))
  all_goals go_wp2
  all_goals (
    go_ret
    have q3 : Only wa w3 (bl (.slice (some ⟨w.heap.size, 0, none⟩) 0 0)) := by rw [hwa]; exact q2
    have o3 : Only w w3 [] := oa.trans q3 (ks := []) (fun k hk => .inr (by simp [bl, Value.ownBlock] at hk; omega))
    have o4 : Only w w4 [] := o3.trans r2 (ks := []) (fun k hk => .inr (own_bl q1 k hk).1)
    refine ⟨A2, c2, rfl, ?_, o4⟩
    rw [List.eraseIdx_eq_take_drop_succ]
    have e9 : l.length - 1 = (l.take i ++ l.drop (i + 1)).length := by rw [List.length_append]; omega
    refine RRow.own (B := w.heap.size) (by rw [← e9]; exact r1) (fun k hk => .inr hk) (fun x hx => ?_)
    have hxl : x ∈ l := by
      rcases List.mem_append.1 hx with hx | hx
      · exact List.mem_of_mem_take hx
      · exact List.mem_of_mem_drop hx
    exact ⟨((HB.out x hxl).1.only o4).to (fun k _ hk => .inl hk), (HB.out x hxl).2⟩)
end Go.Proofs.Ytehgneiiajpgpaa
