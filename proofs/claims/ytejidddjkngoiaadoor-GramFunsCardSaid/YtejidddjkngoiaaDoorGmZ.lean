/- gram: the names in a tree. -/
import Derived.Test.YtejidddjkngoiaaDoorGmY
import Derived.Deep.CutBlock
namespace Go.Proofs.YtejidddjkngoiaaDoor
open Go.RowKit
set_option linter.all false
set_option maxHeartbeats 4000000
set_option maxRecDepth 100000

def named (kd : Int) : Bool := kd == 2 || kd == 3 || kd == 11 || kd == 17
mutual
/-- How many were visited, and the names met. -/
def nmT : GTree → Nat × List ByteArray → Nat × List ByteArray
  | .node kd s _ _ l, st => if st.1 = 4000 then st else nmL l (st.1 + 1, if named kd then st.2 ++ [s] else st.2)
def nmL : List GTree → Nat × List ByteArray → Nat × List ByteArray
  | [], st => st
  | t :: r, st => nmL r (nmT t st)
end
mutual
def nodesT : GTree → Nat
  | .node _ _ _ _ l => nodesL l + 1
def nodesL : List GTree → Nat
  | [] => 0
  | t :: r => nodesT t + nodesL r
end
theorem nodes_mem : ∀ (l : List GTree) (i : Nat) (t : GTree), l[i]? = some t → nodesT t ≤ nodesL l
  | [], _, _, h => by simp at h
  | x :: l, 0, t, h => by
    obtain rfl : x = t := by simpa using h
    unfold nodesL
    omega
  | x :: l, i + 1, t, h => by
    have := nodes_mem l i t (by simpa using h)
    unfold nodesL
    omega
mutual
/-- A tree that is read: its rows anywhere in blocks of P. -/
def TVr (w : World) (P : Nat → Prop) : GTree → V5 → Prop
  | .node kd s n b l, v => v.a = .int .i64 kd ∧ v.b = .string s ∧ v.c = .int .i64 n ∧ BytesRd w P v.d b ∧ ∃ A c, v.e = .slice A l.length c ∧ l.length ≤ c ∧ l.length ≤ maxLen ∧ TLr w P A 0 l
/-- Trees lie one behind the other. -/
def TLr (w : World) (P : Nat → Prop) (A : Option Addr) (off : Nat) : List GTree → Prop
  | [] => True
  | t :: r => (∃ (g o : Nat) (v : V5), A = some ⟨g, o, none⟩ ∧ P g ∧ (∀ j u, (cells5 v)[j]? = some u → w.cell? ⟨g, o + off * 5 + j, none⟩ = some u) ∧ TVr w P t v) ∧ TLr w P A (off + 1) r
end
theorem TLr_get {w : World} {P : Nat → Prop} {A : Option Addr} : ∀ (l : List GTree) (off i : Nat) (t : GTree), TLr w P A off l → l[i]? = some t → ∃ (g o : Nat) (v : V5), A = some ⟨g, o, none⟩ ∧ P g ∧ (∀ j u, (cells5 v)[j]? = some u → w.cell? ⟨g, o + (off + i) * 5 + j, none⟩ = some u) ∧ TVr w P t v
  | [], _, _, _, _, h => by simp at h
  | x :: l, off, 0, t, hl, h => by
    obtain rfl : x = t := by simpa using h
    unfold TLr at hl
    exact hl.1
  | x :: l, off, i + 1, t, hl, h => by
    unfold TLr at hl
    have := TLr_get l (off + 1) i t hl.2 (by simpa using h)
    rw [show off + 1 + i = off + (i + 1) by omega] at this
    exact this
mutual
theorem TVr_move {w w' : World} {P Q : Nat → Prop} (hk : ∀ k, k < w.heap.size → P k → w'.heap[k]? = w.heap[k]? ∧ Q k) : ∀ (t : GTree) (v : V5), TVr w P t v → TVr w' Q t v
  | .node kd s n b l, v, h => by
    unfold TVr at h ⊢
    obtain ⟨h1, h2, h3, h4, A, c, h5, h6, h7, h8⟩ := h
    exact ⟨h1, h2, h3, h4.move hk, A, c, h5, h6, h7, TLr_move hk A 0 l h8⟩
theorem TLr_move {w w' : World} {P Q : Nat → Prop} (hk : ∀ k, k < w.heap.size → P k → w'.heap[k]? = w.heap[k]? ∧ Q k) (A : Option Addr) (off : Nat) : ∀ (l : List GTree), TLr w P A off l → TLr w' Q A off l
  | [], _ => by unfold TLr; trivial
  | t :: r, h => by
    unfold TLr at h ⊢
    obtain ⟨⟨g, o, v, h1, h2, h3, h4⟩, h5⟩ := h
    have hlt : g < w.heap.size := World.block_lt_of_cell? _ _ (h3 0 v.a rfl)
    exact ⟨⟨g, o, v, h1, (hk g hlt h2).2, fun j u hj => (World.cell?_of_block (hk g hlt h2).1).trans (h3 j u hj), TVr_move hk t v h4⟩, TLr_move hk A (off + 1) r h5⟩
end
theorem TVr.five {w : World} {P : Nat → Prop} {t : GTree} {u : V5} (h : TVr w P t u) : ∃ kd s n A3 n3 c3 A4 n4 c4, u = ⟨.int .i64 kd, .string s, .int .i64 n, .slice A3 n3 c3, .slice A4 n4 c4⟩ := by
  obtain ⟨kd, s, n, b, l⟩ := t
  obtain ⟨a0, a1, a2, a3, a4⟩ := u
  unfold TVr at h
  obtain ⟨h1, h2, h3, ⟨⟨A, c, h4, _⟩, _⟩, A', c', h5, _⟩ := h
  dsimp only at h1 h2 h3 h4 h5
  subst h1 h2 h3 h4 h5
  exact ⟨_, _, _, _, _, _, _, _, _, rfl⟩
theorem BytesIn.rd {w : World} {P : Nat → Prop} {v : Value} {b : List Int} (h : BytesIn w P v b) : BytesRd w P v b := by
  obtain ⟨h1, h2⟩ := h
  rcases h1.2 with ⟨rfl, h0⟩ | ⟨g, cap, cur, rfl, q1, q2, q3, q4, q5, q6⟩
  · have : b = [] := List.eq_nil_of_length_eq_zero h0
    subst this
    exact BytesRd.nil w P
  · refine ⟨⟨_, cap, rfl, (fun h => by cases h), fun ad had j x hx => ?_⟩, fun a n c hv _ => ?_⟩
    · cases had
      rw [Addr.add_lit, Nat.zero_add, Lib.cell_of_heap q2]
      have hj : j < b.length := (List.getElem?_eq_some_iff.1 hx).1
      have e := congrArg (fun l => l[j]?) q6
      simp only [List.getElem?_take, List.getElem?_map, hx, Option.map_some] at e
      rw [if_pos (by omega)] at e
      simpa using e
    · cases hv
      exact h2 g (by simp [bl, Value.ownBlock])
theorem TLr_of {w : World} {P : Nat → Prop} {A : Option Addr} : ∀ (l : List GTree) (off : Nat), (∀ i t, l[i]? = some t → ∃ (g o : Nat) (v : V5), A = some ⟨g, o, none⟩ ∧ P g ∧ (∀ j u, (cells5 v)[j]? = some u → w.cell? ⟨g, o + (off + i) * 5 + j, none⟩ = some u) ∧ TVr w P t v) → TLr w P A off l
  | [], _, _ => by unfold TLr; trivial
  | x :: l, off, h => by
    unfold TLr
    refine ⟨h 0 x rfl, TLr_of l (off + 1) (fun i t ht => ?_)⟩
    have := h (i + 1) t (by simpa using ht)
    rw [show off + (i + 1) = off + 1 + i by omega] at this
    exact this
/-- A tree of somebody's own is read. -/
theorem TV.rd {w : World} : ∀ (N : Nat) (t : GTree), nodesT t ≤ N → ∀ (P : Nat → Prop) (v : V5), TV w P t v → TVr w P t v
  | 0, .node kd s n b l, hN => by unfold nodesT at hN; omega
  | N + 1, .node kd s n b l, hN => by
    intro P v h
    unfold TV at h
    obtain ⟨h1, h2, h3, h4, vs, h5, h6, h7⟩ := h
    have hl := TZ_len l vs h7
    have hlen : nodesL l ≤ N := by unfold nodesT at hN; omega
    have hrt : RT w P v.e l := ⟨vs, h5, h6, h7⟩
    obtain ⟨vs2, e2, hv⟩ := hrt.vals
    obtain ⟨A, c, hA⟩ := own_shape h5
    unfold TVr
    refine ⟨h1, h2, h3, h4.rd, A, c, hA, ?_, ?_, TLr_of l 0 (fun i t ht => ?_)⟩
    · rcases h5.2 with ⟨hv0, h0⟩ | ⟨g, cap, cur, hv0, q1, q2, q3, q4, q5, q6⟩
      · omega
      · rw [hA] at hv0
        simp only [Value.slice.injEq] at hv0
        omega
    · rcases h5.2 with ⟨hv0, h0⟩ | ⟨g, cap, cur, hv0, q1, q2, q3, q4, q5, q6⟩
      · omega
      · omega
    · obtain ⟨u, hu, htv, g, o, ⟨A', c', hA', hAA⟩, hP, hc⟩ := hv i t ht
      rw [hA] at hA'
      simp only [Value.slice.injEq] at hA'
      refine ⟨g, o, u, by rw [hA'.1, hAA], hP, fun j x hj => ?_, TV.rd N t (Nat.le_trans (nodes_mem l i t ht) hlen) P u htv⟩
      rw [Nat.zero_add]
      exact hc j x hj
theorem string_info : (Tryd.prog.info? 9).map (fun i => (i.zero, i.size, i.bytes)) = some (some (.string ⟨#[]⟩), 1, 16) := by kernel_rfl
/-- What the closure of Names stands on. -/
structure NAt (W : World) (B bn bo bj cnt : Nat) (v : Value) (out : List ByteArray) : Prop where
  n : W.heap[bn]? = some (.cells #[.int .i64 cnt] 3 (0, 0))
  o : W.heap[bo]? = some (.cells #[v] 23 (0, 0))
  j : W.heap[bj]? = some (.cells #[.func (.func 18) #[] #[.pointer (some ⟨bn, 0, none⟩), .pointer (some ⟨bo, 0, none⟩), .pointer (some ⟨bj, 0, none⟩)]] 48 (0, 0))
  row : W.ownsRow B 9 1 v out.length (out.map Value.string)
  lo : B ≤ bn ∧ B ≤ bo ∧ B ≤ bj ∧ bn ≠ bo ∧ bn ≠ bj ∧ bo ≠ bj
  le : out.length ≤ cnt
  le2 : cnt ≤ 4000
theorem own_ne {w : World} {B : Nat} {v : Value} {n : Nat} {xs : List Value} {k : Nat} {cs : Array Value} {ty : TypeId} {fr : Nat × Nat} (h : w.ownsRow B 9 1 v n xs) (hk : w.heap[k]? = some (.cells cs ty fr)) (ht : ty ≠ 9) : k ∉ bl v := by
  intro hm
  rcases h.2 with ⟨rfl, _⟩ | ⟨g, cap, cur, rfl, _, h2, _⟩
  · simp [bl, Value.ownBlock] at hm
  · simp [bl, Value.ownBlock] at hm
    subst hm
    rw [hk] at h2
    simp at h2
    exact ht h2.2.1
/-- append of a text to a row of the call's own. -/
theorem run_append_str {w : World} {B : Nat} {v : Value} {out : List ByteArray} (h : w.ownsRow B 9 1 v out.length (out.map Value.string)) (hB : B ≤ w.heap.size) (hn : out.length + 1 ≤ 1000000) (s : ByteArray) :
    ∃ A c w', (Builtin.append_ #[23, 23] 23 #[v, .slice (some ⟨w.heap.size, 0, none⟩) 1 1]).run Tryd.prog (w.alloc (.cells #[.string s] 9)) = .ok (.slice A (out.length + 1) c) w' ∧ w'.ownsRow B 9 1 (.slice A (out.length + 1) c) (out.length + 1) ((out ++ [s]).map Value.string) ∧ Only w w' (bl v) := by
  obtain ⟨i0, hi, hz0, hz1, hz2⟩ := info_parts string_info
  have hml : 140737488355328 ≤ maxLen := by decide
  have hb := heap_alloc_new w (.cells #[.string s] 9)
  obtain ⟨v', w', hrun, r1, r2, r3⟩ := run_append_own (P := Tryd.prog) (w.alloc (.cells #[.string s] 9)) B 23 23 9 i0 _ 1 16 Tryd.underlying23 hi hz0 hz1 hz2 rfl (by decide) v out.length (out.map Value.string) (own_keep h (Only.alloc w _ []) (by simp)) ⟨w.heap.size, 0, none⟩ 1 1 [Value.string s] rfl (by
      intro j u hj
      obtain rfl : j = 0 := by have := (List.getElem?_eq_some_iff.1 hj).1; simpa using this
      simp at hj
      subst hj
      rw [Addr.add_lit, Lib.cell_of_heap hb]
      rfl) (by
      intro u hu
      simp at hu
      subst hu
      rfl) (by omega) (by omega) (by simp; omega)
  obtain ⟨A, c', rfl⟩ := own_shape r1
  exact ⟨A, c', w', hrun, by simpa using r1, (Only.alloc w _ (bl v)).trans (Only.grown r2 (fun k hk => by unfold Go.Proofs.YtejidddjkngoiaaDoor.bl; rw [hk]; simp)) (fun _ h => .inl h)⟩
theorem NAt.move {w w' : World} {B bn bo bj cnt : Nat} {v : Value} {out : List ByteArray} (h : NAt w B bn bo bj cnt v out) (ho : Only w w' []) : NAt w' B bn bo bj cnt v out :=
  ⟨(ho.block _ (Array.getElem?_eq_some_iff.1 h.n).1 (by simp)).trans h.n, (ho.block _ (Array.getElem?_eq_some_iff.1 h.o).1 (by simp)).trans h.o, (ho.block _ (Array.getElem?_eq_some_iff.1 h.j).1 (by simp)).trans h.j, own_keep h.row ho (by simp), h.lo, h.le, h.le2⟩
theorem NAt.out_ {w : World} {B bn bo bj cnt : Nat} {v : Value} {out : List ByteArray} (h : NAt w B bn bo bj cnt v out) : bn ∉ bl v ∧ bo ∉ bl v ∧ bj ∉ bl v := ⟨own_ne h.row h.n (by decide), own_ne h.row h.o (by decide), own_ne h.row h.j (by decide)⟩
/-- One more was visited. -/
theorem NAt.more {w : World} {B bn bo bj cnt : Nat} {v : Value} {out : List ByteArray} (h : NAt w B bn bo bj cnt v out) (hc : cnt < 4000) : NAt (w.setCell ⟨bn, 0, none⟩ (.int .i64 ((cnt : Int) + 1))) B bn bo bj (cnt + 1) v out := by
  have o1 := Only.setCell w ⟨bn, 0, none⟩ (.int .i64 ((cnt : Int) + 1))
  obtain ⟨l1, l2, l3, l4, l5, l6⟩ := h.lo
  exact ⟨heap_setCell h.n 0 _, (o1.block _ (Array.getElem?_eq_some_iff.1 h.o).1 (by simpa using Ne.symm l4)).trans h.o, (o1.block _ (Array.getElem?_eq_some_iff.1 h.j).1 (by simpa using Ne.symm l5)).trans h.j, own_keep h.row o1 (fun b hb => by simp; rintro rfl; exact h.out_.1 hb), h.lo, by have := h.le; omega, hc⟩
/-- A name more. -/
theorem NAt.put {w w' : World} {B bn bo bj cnt : Nat} {v v' : Value} {out out' : List ByteArray} (h : NAt w B bn bo bj cnt v out) (hr : w'.ownsRow B 9 1 v' out'.length (out'.map Value.string)) (ho : Only w w' (bl v)) (hl : out'.length ≤ cnt) : NAt (w'.setCell ⟨bo, 0, none⟩ v') B bn bo bj cnt v' out' := by
  obtain ⟨l1, l2, l3, l4, l5, l6⟩ := h.lo
  obtain ⟨m1, m2, m3⟩ := h.out_
  have o1 := Only.setCell w' ⟨bo, 0, none⟩ v'
  have go := (ho.block _ (Array.getElem?_eq_some_iff.1 h.o).1 m2).trans h.o
  have gn := (ho.block _ (Array.getElem?_eq_some_iff.1 h.n).1 m1).trans h.n
  have gj := (ho.block _ (Array.getElem?_eq_some_iff.1 h.j).1 m3).trans h.j
  exact ⟨(o1.block _ (Array.getElem?_eq_some_iff.1 gn).1 (by simpa using l4)).trans gn, heap_setCell go 0 _, (o1.block _ (Array.getElem?_eq_some_iff.1 gj).1 (by simpa using Ne.symm l6)).trans gj, own_keep hr o1 (fun b hb => by simp; rintro rfl; exact own_ne hr go (by decide) hb), h.lo, hl, h.le2⟩
theorem nmL_app : ∀ (a b : List GTree) (st : Nat × List ByteArray), nmL (a ++ b) st = nmL b (nmL a st)
  | [], b, st => rfl
  | x :: a, b, st => by
    show nmL (x :: (a ++ b)) st = nmL b (nmL (x :: a) st)
    rw [nmL, nmL]
    exact nmL_app a b _
theorem nmL_take (l : List GTree) (k : Nat) (x : GTree) (h : l[k]? = some x) (st : Nat × List ByteArray) : nmL (l.take (k + 1)) st = nmT x (nmL (l.take k) st) := by
  rw [List.take_add_one, h, nmL_app]
  rfl
theorem Below.only0 {B : Nat} {w w' : World} {ks : List Nat} (ho : Only w w' ks) (hk : ∀ k ∈ ks, B ≤ k) (hB : B ≤ w.heap.size) : Below B w w' := ho.below hk hB
theorem names1_c (B bn bo bj : Nat) : ∀ (N : Nat) (t : GTree), nodesT t ≤ N → ∀ (w : World) (u : V5) (cnt : Nat) (v : Value) (out : List ByteArray), TVr w (fun k => k < B) t u → NAt w B bn bo bj cnt v out →
    Calls Tryd.prog 18 #[u.agg, .pointer (some ⟨bn, 0, none⟩), .pointer (some ⟨bo, 0, none⟩), .pointer (some ⟨bj, 0, none⟩)] w fun e w' => e = .returned (.tuple #[]) ∧ (∃ v', NAt w' B bn bo bj (nmT t (cnt, out)).1 v' (nmT t (cnt, out)).2) ∧ Below B w w'
  | 0, .node kd s n b l, hN => by unfold nodesT at hN; omega
  | N + 1, .node kd s n b l, hN => by
    intro w u cnt v out ht hn
    have hn0 := hn
    obtain ⟨kdv, sv, nv, A3, n3, c3, A4, n4, c4, rfl⟩ := ht.five
    unfold TVr at ht
    obtain ⟨h1, h2, h3, h4, AL, cL, h5, h6, h7, h8⟩ := ht
    simp only [Value.int.injEq, true_and] at h1 h3
    simp only [Value.string.injEq] at h2
    simp only [Value.slice.injEq] at h5
    subst h1 h2 h3
    obtain ⟨rfl, rfl, rfl⟩ := h5
    have hc : w.cell? ⟨bn, 0, none⟩ = some (.int .i64 cnt) := by rw [Lib.cell_of_heap hn.n]; rfl
    have hf : w.frozen? ⟨bn, 0, none⟩ = false := Lib.frozen_of_heap hn.n 0
    have hbl : bn < w.heap.size := (Array.getElem?_eq_some_iff.1 hn.n).1
    have HN := Aside0.mk hn
    have HTL := Aside0.mk h8
    have HSZ := Aside0.mk hN
    clear hn hn0 h4 hN
    have hBw : B ≤ w.heap.size := by have := HN.out.lo; omega
    by_cases hmax : cnt = 4000
    · subst hmax
      have e0 : nmT (.node kdv sv nv b l) (4000, out) = (4000, out) := by simp [nmT]
      rw [e0]
      go_enter Tryd.func18, Tryd.ntmps18
      go_wp2_with fail
      refine bodyPost_ret (results_none rfl _ _ _) rfl ?_
      exact ⟨rfl, ⟨_, HN.out.move (Only.alloc w _ [])⟩, Below.only0 (Only.alloc w _ []) (by simp) hBw⟩
    · have hm : ¬ ((cnt : Int) = 4000) := by omega
      have hmb : ((cnt : Int) == 4000) = false := by simpa using hm
      have hc4 : cnt < 4000 := by have := HN.out.le2; omega
      have hwr : wrap64 ((cnt : Int) + 1) = (cnt : Int) + 1 := by unfold wrap64; omega
      have e0 : nmT (.node kdv sv nv b l) (cnt, out) = nmL l (cnt + 1, if named kdv then out ++ [sv] else out) := by rw [nmT, if_neg hmax]
      obtain ⟨out1, ho1⟩ : ∃ out1, out1 = if named kdv then out ++ [sv] else out := ⟨_, rfl⟩
      rw [e0, ← ho1]
      have HOU := Aside0.mk ho1
      clear e0 ho1
      go_enter Tryd.func18, Tryd.ntmps18
      go_upto_block 0 with fail
      have hn1 := HN.out.more hc4
      obtain ⟨w1, hw1⟩ : ∃ w1, w1 = (w.setCell ⟨bn, 0, none⟩ (.int .i64 ((cnt : Int) + 1))).alloc (.cells #[.int .i64 kdv, .string sv, .int .i64 nv, .slice A3 n3 c3, .slice A4 l.length c4] 28) := ⟨_, rfl⟩
      rw [← hw1]
      have ho1 := Only.setCell w ⟨bn, 0, none⟩ (.int .i64 ((cnt : Int) + 1))
      have hN1 : NAt w1 B bn bo bj (cnt + 1) v out := by rw [hw1]; exact hn1.move (Only.alloc _ _ [])
      have ho01 : Only w w1 [bn] := by rw [hw1]; exact ho1.allocs _
      have hsz : (w.setCell ⟨bn, 0, none⟩ (.int .i64 ((cnt : Int) + 1))).heap.size = w.heap.size := by simp [World.setCell]
      have hbx : w1.heap[w.heap.size]? = some (.cells #[.int .i64 kdv, .string sv, .int .i64 nv, .slice A3 n3 c3, .slice A4 l.length c4] 28 (0, 0)) := by rw [hw1]; exact heap_alloc_is _ _ _ _ hsz.symm
      have HN1 := Aside0.mk hN1
      have HO01 := Aside0.mk ho01
      have HBX := Aside0.mk hbx
      clear hw1 hn1 ho1 hN1 ho01 hbx hsz hc hf hwr
      go_cut [] (fun wx => ∃ v1, Aside0 (NAt wx B bn bo bj (cnt + 1) v1 out1) ∧ Aside0 (wx.heap[w.heap.size]? = some (.cells #[.int .i64 kdv, .string sv, .int .i64 nv, .slice A3 n3 c3, .slice A4 l.length c4] 28 (0, 0))) ∧ Aside0 (Below B w wx))
      case first =>
        obtain ⟨x0, x1, x2, x3, x4, _⟩ := blk5 HBX.out
        cases hnm : named kdv with
        | false =>
          have HNM := Aside0.mk hnm
          simp only [named, Bool.or_eq_false_iff] at hnm
          obtain ⟨⟨⟨k1, k2⟩, k3⟩, k4⟩ := hnm
          go_wp2_with fail
          go_meet
          exact ⟨v, ⟨by rw [HOU.out, HNM.out]; exact HN1.out⟩, HBX, ⟨Below.only0 HO01.out (by have := HN.out.lo; simp; omega) hBw⟩⟩
        | true =>
          have hvo : w1.cell? ⟨bo, 0, none⟩ = some v := by rw [Lib.cell_of_heap HN1.out.o]; rfl
          have hvf := Lib.frozen_of_heap HN1.out.o 0
          have hbol : bo < w1.heap.size := (Array.getElem?_eq_some_iff.1 HN1.out.o).1
          obtain ⟨A5, c5, w5, hrun, hrow5, o5⟩ := run_append_str HN1.out.row (Nat.le_trans hBw HO01.out.size) (by have := HN1.out.le; omega) sv
          have hvo5 : w5.cell? ⟨bo, 0, none⟩ = some v := by rw [Lib.cell_of_heap ((o5.block _ hbol HN1.out.out_.2.1).trans HN1.out.o)]; rfl
          have hvf5 := Lib.frozen_of_heap ((o5.block _ hbol HN1.out.out_.2.1).trans HN1.out.o) 0
          have hbol5 : bo < w5.heap.size := Nat.lt_of_lt_of_le hbol o5.size
          obtain ⟨A0, c0, rfl⟩ := own_shape HN1.out.row
          have HO5 := Aside0.mk o5
          have HR5 := Aside0.mk hrow5
          have hk : kdv = 2 ∨ kdv = 3 ∨ kdv = 11 ∨ kdv = 17 := by simpa [named, or_assoc] using hnm
          clear o5 hrow5 hnm
          rcases hk with rfl | rfl | rfl | rfl
          all_goals
            go_wp2_with (at_builtin; refine wpList_append_by rfl _ _ _ _ rfl _ _ rfl rfl _ _ hrun ?_; clear hrun)
            go_meet
            have hn5 := HN1.out.put (out' := out ++ [sv]) (by simpa using HR5.out) HO5.out (by have := HN.out.le; simp; omega)
            have hb5 := (Only.setCell w5 ⟨bo, 0, none⟩ (.slice A5 (out.length + 1) c5)).block w.heap.size (Nat.lt_of_lt_of_le (Array.getElem?_eq_some_iff.1 HBX.out).1 HO5.out.size) (by have := (Array.getElem?_eq_some_iff.1 HN.out.o).1; simp; omega)
            have hb6 := HO5.out.block w.heap.size (Array.getElem?_eq_some_iff.1 HBX.out).1 (own_ne HN1.out.row HBX.out (by decide))
            exact ⟨_, ⟨by rw [HOU.out]; exact hn5⟩, ⟨(hb5.trans hb6).trans HBX.out⟩, ⟨Below.only0 (ks := bn :: bo :: bl (.slice A0 out.length c0)) (((HO01.out.weaken (by simp)).trans HO5.out (fun k hk => .inl (by simp [hk]))).trans (Only.setCell w5 ⟨bo, 0, none⟩ (.slice A5 (out.length + 1) c5)) (by simp)) (fun k hk => by
              rcases List.mem_cons.1 hk with rfl | hk
              · exact HN.out.lo.1
              rcases List.mem_cons.1 hk with rfl | hk
              · exact HN.out.lo.2.1
              · exact (own_bl HN.out.row k hk).1) hBw⟩⟩
      case rest =>
        obtain ⟨v1, HN2, HBX2, HBE⟩ := hcut
        obtain ⟨x0, x1, x2, x3, x4, _⟩ := blk5 HBX2.out
        have HSZ2 : Aside0 (nodesL l ≤ N) := ⟨by have := HSZ.out; unfold nodesT at this; omega⟩
        clear HN1 HO01 HBX HBX2 HSZ HOU
        go_wp2_with fail
        go_loopg [26] l.length (fun gk v26 wr => ∃ (k : Nat) (v2 : Value), k ≤ l.length ∧ gk = l.length - k ∧ v26 = .int .i64 (k : Int) ∧ Aside0 (NAt wr B bn bo bj (nmL (l.take k) (cnt + 1, out1)).1 v2 (nmL (l.take k) (cnt + 1, out1)).2) ∧ Aside0 (Below B w wr))
        case atStart => exact ⟨0, v1, Nat.zero_le _, rfl, rfl, HN2, HBE⟩
        case round =>
          obtain ⟨k, v2, hk, rfl, rfl, HNR, HBR⟩ := hrel
          by_cases hlt : k < l.length
          · obtain ⟨x, hx⟩ : ∃ x, l[k]? = some x := ⟨_, List.getElem?_eq_getElem hlt⟩
            have htl := TLr_move (w' := wr) (Q := fun k => k < B) (fun k _ hP => ⟨HBR.out.block k hP, hP⟩) A4 0 l HTL.out
            obtain ⟨g', o', ux, rfl, hgB, hcl, htx⟩ := TLr_get l 0 k x htl hx
            rw [Nat.zero_add] at hcl
            obtain ⟨kdx, sx, nx, A3x, n3x, c3x, A4x, n4x, c4x, rfl⟩ := htx.five
            have t0 : wr.cell? ⟨g', o' + k * 5, none⟩ = some (.int .i64 kdx) := hcl 0 _ rfl
            have t1 := hcl 1 _ rfl
            have t2 := hcl 2 _ rfl
            have t3 := hcl 3 _ rfl
            have t4 := hcl 4 _ rfl
            have z0 : (k : Int) < (l.length : Int) := by omega
            have z1 : (0 : Int) ≤ (k : Int) := by omega
            have hkw : wrap64 ((k : Int) + 1) = (k : Int) + 1 := by
              have hml : maxLen = 9223372036854775807 := by decide
              unfold wrap64
              omega
            have hj : wr.cell? ⟨bj, 0, none⟩ = some (.func (.func 18) #[] #[.pointer (some ⟨bn, 0, none⟩), .pointer (some ⟨bo, 0, none⟩), .pointer (some ⟨bj, 0, none⟩)]) := by rw [Lib.cell_of_heap HNR.out.j]; rfl
            have hjl : bj < wr.heap.size := (Array.getElem?_eq_some_iff.1 HNR.out.j).1
            obtain ⟨w4, hw4⟩ : ∃ w4, w4 = wr.alloc (.cells #[.int .i64 kdx, .string sx, .int .i64 nx, .slice A3x n3x c3x, .slice A4x n4x c4x] 28) := ⟨_, rfl⟩
            have o4 : Only wr w4 [] := by rw [hw4]; exact Only.alloc wr _ []
            have hih := names1_c B bn bo bj N x (Nat.le_trans (nodes_mem l k x hx) HSZ2.out) w4 _ _ v2 _ (TVr_move (w' := w4) (Q := fun k => k < B) (fun k hk hP => ⟨o4.block k hk (by simp), hP⟩) x _ htx) (HNR.out.move o4)
            have HIH := Aside0.mk hih
            have HX := Aside0.mk hx
            have HO4 := Aside0.mk o4
            clear hcl htx htl hih hx o4
            go_wp2_with (go_at_call 18; rw [← hw4]; clear hw4; refine HIH.out.mono ?_; rintro e w5 ⟨rfl, ⟨v5, hn5⟩, hb5⟩; have HN5 := Aside0.mk hn5; have HB5 := Aside0.mk hb5; clear hn5 hb5)
            go_roundg (l.length - (k + 1))
            case measure => omega
            case rel =>
              have hst := nmL_take l k x HX.out (cnt + 1, out1)
              refine ⟨k + 1, v5, hlt, rfl, by simp [hkw], ⟨by rw [hst]; exact HN5.out⟩, ⟨?_⟩⟩
              have hBr : B ≤ wr.heap.size := Nat.le_trans hBw HBR.out.size
              exact (HBR.out.trans (Below.only0 HO4.out (by simp) hBr)).trans HB5.out
          · obtain rfl : k = l.length := by omega
            have hnl : ¬ ((l.length : Int) < (l.length : Int)) := by omega
            go_wp2_with fail
            go_end0
            rw [List.take_length] at HNR
            exact ⟨rfl, ⟨v2, HNR.out⟩, HBR.out⟩
abbrev namesW (w : World) (u : V5) : World := (((w.alloc (.cells #[u.a, u.b, u.c, u.d, u.e] 28)).alloc (.cells #[.slice none 0 0] 23)).alloc (.cells #[.int .i64 0] 3)).alloc (.cells #[.func (.func 18) #[] #[.pointer (some ⟨w.heap.size + 1 + 1, 0, none⟩), .pointer (some ⟨w.heap.size + 1, 0, none⟩), .pointer (some ⟨w.heap.size + 1 + 1 + 1, 0, none⟩)]] 48)
structure NamesIn (w w1 : World) (u : V5) : Prop where
  only : Only w w1 []
  tree : w1.heap[w.heap.size]? = some (.cells #[u.a, u.b, u.c, u.d, u.e] 28 (0, 0))
  at' : NAt w1 w.heap.size (w.heap.size + 1 + 1) (w.heap.size + 1) (w.heap.size + 1 + 1 + 1) 0 (.slice none 0 0) []
theorem namesIn (w : World) (u : V5) : NamesIn w (namesW w u) u := by
  refine ⟨(((Only.alloc w _ []).allocs _).allocs _).allocs _, ?_, ⟨?_, ?_, ?_, World.ownsRow_nil _ _ _ 1, by omega, by simp, by omega⟩⟩
  · rw [heap_alloc_at _ _ _ (by simp <;> omega), heap_alloc_at _ _ _ (by simp <;> omega), heap_alloc_at _ _ _ (by simp)]
    exact heap_alloc_is _ _ _ _ (by simp)
  · rw [heap_alloc_at _ _ _ (by simp <;> omega)]
    exact heap_alloc_is _ _ _ _ (by simp)
  · rw [heap_alloc_at _ _ _ (by simp <;> omega), heap_alloc_at _ _ _ (by simp <;> omega)]
    exact heap_alloc_is _ _ _ _ (by simp)
  · exact heap_alloc_is _ _ _ _ (by simp)
theorem names_c (w : World) (t : GTree) (u : V5) (ht : TVr w (fun _ => True) t u) : Calls Tryd.prog 12 #[u.agg] w fun e w' => ∃ v, e = .returned v ∧ w'.ownsRow w.heap.size 9 1 v (nmT t (0, [])).2.length ((nmT t (0, [])).2.map Value.string) ∧ Below w.heap.size w w' := by
  have hin := namesIn w u
  obtain ⟨kdx, sx, nx, A3x, n3x, c3x, A4x, n4x, c4x, rfl⟩ := ht.five
  obtain ⟨w1, hw1⟩ : ∃ w1, w1 = namesW w ⟨.int .i64 kdx, .string sx, .int .i64 nx, .slice A3x n3x c3x, .slice A4x n4x c4x⟩ := ⟨_, rfl⟩
  rw [← hw1] at hin
  have hc := names1_c w.heap.size (w.heap.size + 1 + 1) (w.heap.size + 1) (w.heap.size + 1 + 1 + 1) (nodesT t) t (Nat.le_refl _) w1 _ 0 _ [] (TVr_move (w' := w1) (Q := fun k => k < w.heap.size) (fun k hk _ => ⟨hin.only.block k hk (by simp), hk⟩) t _ ht) hin.at'
  obtain ⟨x0, x1, x2, x3, x4, _⟩ := blk5 hin.tree
  have hj : w1.cell? ⟨w.heap.size + 1 + 1 + 1, 0, none⟩ = some (.func (.func 18) #[] #[.pointer (some ⟨w.heap.size + 1 + 1, 0, none⟩), .pointer (some ⟨w.heap.size + 1, 0, none⟩), .pointer (some ⟨w.heap.size + 1 + 1 + 1, 0, none⟩)]) := by rw [Lib.cell_of_heap hin.at'.j]; rfl
  have HC := Aside0.mk hc
  have HO := Aside0.mk hin.only
  have hst := @run_store_fn Tryd.prog
  clear hc hin ht
  go_enter Tryd.func12, Tryd.ntmps12
  go_upto_region 5 with fail
  rw [show (((w.alloc (.cells #[.int .i64 kdx, .string sx, .int .i64 nx, .slice A3x n3x c3x, .slice A4x n4x c4x] 28)).alloc (.cells #[.slice none 0 0] 23)).alloc (.cells #[.int .i64 0] 3)).alloc (.cells #[.func (.func 18) #[] #[.pointer (some ⟨w.heap.size + 1 + 1, 0, none⟩), .pointer (some ⟨w.heap.size + 1, 0, none⟩), .pointer (some ⟨w.heap.size + 1 + 1 + 1, 0, none⟩)]] 48) = w1 from hw1.symm]
  clear hw1 hst
  go_wp2_with (go_at_call 18; refine HC.out.mono ?_; rintro e w2 ⟨rfl, ⟨v2, hn2⟩, hb2⟩; have ho : w2.cell? ⟨w.heap.size + 1, 0, none⟩ = some v2 := (by rw [Lib.cell_of_heap hn2.o]; rfl); obtain ⟨A2, c2, rfl⟩ := own_shape hn2.row; have HN2 := Aside0.mk hn2; have HB2 := Aside0.mk hb2; clear hn2 hb2)
  go_ret
  exact ⟨_, rfl, HN2.out.row, (Below.only0 HO.out (by simp) (Nat.le_refl _)).trans HB2.out⟩
end Go.Proofs.YtejidddjkngoiaaDoor
