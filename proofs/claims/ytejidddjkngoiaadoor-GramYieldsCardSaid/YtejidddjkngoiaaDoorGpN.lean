/- gram: the names of a tree: those of the first 4000 parts in their order. What a text's tokens yield stands in its tree in the same order; its parts are no more than the tokens. Where and how tokens are bad. -/
import Derived.Test.YtejidddjkngoiaaDoorGmZ
namespace Go.Proofs.YtejidddjkngoiaaDoor
open Go.RowKit
set_option linter.all false

mutual
/-- A tree and all in it, in their order. -/
def preT : GTree → List GTree
  | .node kd s n b l => .node kd s n b l :: preL l
def preL : List GTree → List GTree
  | [] => []
  | t :: r => preT t ++ preL r
end
def nameOf : GTree → Option ByteArray
  | .node kd s _ _ _ => if named kd then some s else none
mutual
/-- The names are those of the first 4000 met. -/
theorem nmT_pre : ∀ (t : GTree) (cnt : Nat) (out : List ByteArray), cnt ≤ 4000 → nmT t (cnt, out) = (min (cnt + (preT t).length) 4000, out ++ ((preT t).take (4000 - cnt)).filterMap nameOf)
  | .node kd s n b l, cnt, out, h => by
    unfold nmT preT
    by_cases hc : cnt = 4000
    · subst hc
      simp
    · rw [if_neg hc, nmL_pre l (cnt + 1) _ (by omega)]
      obtain ⟨m, hm⟩ : ∃ m, 4000 - cnt = m + 1 := ⟨4000 - cnt - 1, by omega⟩
      rw [hm, show 4000 - (cnt + 1) = m by omega, List.take_succ_cons, List.filterMap_cons]
      refine Prod.ext ?_ ?_
      · simp
        omega
      · simp only [nameOf]
        cases named kd <;> simp
theorem nmL_pre : ∀ (l : List GTree) (cnt : Nat) (out : List ByteArray), cnt ≤ 4000 → nmL l (cnt, out) = (min (cnt + (preL l).length) 4000, out ++ ((preL l).take (4000 - cnt)).filterMap nameOf)
  | [], cnt, out, h => by
    unfold nmL preL
    simp
    omega
  | t :: r, cnt, out, h => by
    unfold nmL preL
    rw [nmT_pre t cnt out h, nmL_pre r _ _ (by omega), List.take_append, List.filterMap_append]
    refine Prod.ext ?_ ?_
    · simp
      omega
    · simp only [List.append_assoc]
      rw [show 4000 - min (cnt + (preT t).length) 4000 = 4000 - cnt - (preT t).length by omega]
end
inductive Yd where
  | nm (s : ByteArray)
  | it (n : Int)
  | by_ (x : Int)
def yo (kd : Int) (s : ByteArray) (n : Int) (b : List Int) : List Yd := (if named kd then [Yd.nm s] else []) ++ ((if kd = 1 then [Yd.it n] else []) ++ b.map Yd.by_)
mutual
def yT : GTree → List Yd
  | .node kd s n b l => yo kd s n b ++ yL l
def yL : List GTree → List Yd
  | [] => []
  | t :: r => yT t ++ yL r
end
mutual
def nT : GTree → Nat
  | .node _ _ _ _ l => nL l + 1
def nL : List GTree → Nat
  | [] => 0
  | t :: r => nT t + nL r
end
theorem yL_app : ∀ a b : List GTree, yL (a ++ b) = yL a ++ yL b
  | [], b => rfl
  | t :: a, b => by simp only [List.cons_append, yL, yL_app a b, List.append_assoc]
theorem nL_app : ∀ a b : List GTree, nL (a ++ b) = nL a + nL b
  | [], b => by simp [nL]
  | t :: a, b => by simp only [List.cons_append, nL, nL_app a b]; omega
theorem yL_one (t : GTree) : yL [t] = yT t := by simp [yL]
theorem nL_one (t : GTree) : nL [t] = nT t := by simp [nL]
def yK (t : GT) : List Yd := (if t.kd = 2 ∨ t.kd = 3 then [Yd.nm t.s] else []) ++ ((if t.kd = 1 then [Yd.it t.n] else []) ++ t.b.map Yd.by_)
def GoodT (T : List GT) : Prop := ∀ t ∈ T, t.kd = 4 ∨ t.b = []
theorem good_b {t : GT} (h : t.kd = 4 ∨ t.b = []) (h4 : t.kd ≠ 4) : t.b = [] := h.resolve_left h4
def pY (T : List GT) (i : Nat) : List Yd := (T.take i).flatMap yK
theorem pY_at {T : List GT} {i : Nat} {t : GT} (h : T[i]? = some t) : pY T (i + 1) = pY T i ++ yK t := by
  obtain ⟨hi, h⟩ := List.getElem?_eq_some_iff.1 h
  unfold pY
  rw [← List.take_append_getElem hi, List.flatMap_append, h]
  simp
theorem pY_is {T : List GT} (hT : GoodT T) {i : Nat} {s : ByteArray} (h : isAt T i s = true) : pY T (i + 1) = pY T i := by
  unfold isAt at h
  cases ht : T[i]? with
  | none => rw [ht] at h; cases h
  | some t =>
    rw [ht] at h
    simp only [Bool.and_eq_true, Bool.or_eq_true, beq_iff_eq] at h
    have hb : t.b = [] := by
      rcases hT t (List.mem_of_getElem? ht) with h' | h'
      · omega
      · exact h'
    rw [pY_at ht]
    have h2 : ¬ (t.kd = 2 ∨ t.kd = 3) := by omega
    have h1 : ¬ t.kd = 1 := by omega
    simp [yK, hb, h2, h1]
def Gd {α : Type} (r : PR α) (Q : α → Nat → Prop) : Prop := ∀ x j, r = .ok x j → Q x j
theorem Gd.ok {α : Type} {Q : α → Nat → Prop} {x : α} {j : Nat} (h : Q x j) : Gd (.ok x j) Q := fun _ _ e => by cases e; exact h
theorem Gd.bad {α : Type} {Q : α → Nat → Prop} {j : Nat} {c : Int} : Gd (.bad j c : PR α) Q := fun _ _ e => by cases e
theorem Gd.bind {α β : Type} {r : PR α} {f : α → Nat → PR β} {Q : α → Nat → Prop} {R : β → Nat → Prop} (h : Gd r Q) (hf : ∀ x j, Q x j → Gd (f x j) R) : Gd (r.bind f) R := by
  cases r with
  | bad k c => exact Gd.bad
  | ok x j => exact hf x j (h x j rfl)
theorem Gd.mono {α : Type} {r : PR α} {Q R : α → Nat → Prop} (h : Gd r Q) (hm : ∀ x j, Q x j → R x j) : Gd r R := fun x j e => hm x j (h x j e)
/-- From i on: what a tree yields, and how many parts it has. -/
def YT (T : List GT) (i c : Nat) (t : GTree) (j : Nat) : Prop := pY T j = pY T i ++ yT t ∧ nT t + i ≤ j + c
def YLs (T : List GT) (i c : Nat) (acc l : List GTree) (j : Nat) : Prop := ∃ q, l = acc ++ q ∧ pY T j = pY T i ++ yL q ∧ nL q + i ≤ j + c
def ExY (T : List GT) (f : Nat → PR GTree) : Prop := ∀ i, Gd (f i) (YT T i 0)
theorem want_y {T : List GT} (hT : GoodT T) (i : Nat) (s : ByteArray) : Gd (wantS T i s) (fun _ j => pY T j = pY T i ∧ j = i + 1) := by
  unfold wantS
  split
  · rename_i h; exact Gd.ok ⟨pY_is hT h, rfl⟩
  · exact Gd.bad
theorem more_y {T : List GT} (hT : GoodT T) {ex : Nat → PR GTree} (h : ExY T ex) : ∀ f i acc, Gd (moreS T ex f i acc) (YLs T i 0 acc)
  | 0, i, acc => Gd.ok ⟨[], by simp, by simp [yL], by simp [nL]⟩
  | f + 1, i, acc => by
    unfold moreS
    split
    · rename_i hi
      refine Gd.bind (h (i + 1)) fun t j ht => (more_y hT h f j (acc ++ [t])).mono ?_
      rintro l k ⟨q, rfl, h1, h2⟩
      refine ⟨t :: q, by simp, ?_, ?_⟩
      · rw [h1, ht.1, pY_is hT hi]; simp [yL]
      · have := ht.2; simp only [nL]; omega
    · exact Gd.ok ⟨[], by simp, by simp [yL], by simp [nL]⟩
/-- Some with commas between. -/
theorem row_y {T : List GT} (hT : GoodT T) {ex : Nat → PR GTree} (h : ExY T ex) (i : Nat) : Gd ((ex i).bind fun t j => moreS T ex (T.length + 1) j [t]) (YLs T i 0 []) := by
  refine Gd.bind (h i) fun t j ht => (more_y hT h _ j [t]).mono ?_
  rintro l k ⟨q, rfl, h1, h2⟩
  refine ⟨t :: q, by simp, ?_, ?_⟩
  · rw [h1, ht.1]; simp [yL]
  · have := ht.2; simp only [nL]; omega
theorem yo_none {kd : Int} {s : ByteArray} {n : Int} (h1 : named kd = false) (h2 : kd ≠ 1) : yo kd s n [] = [] := by simp [yo, h1, h2]
theorem bind_assoc' {α β γ : Type} (r : PR α) (f : α → Nat → PR β) (g : β → Nat → PR γ) : ((r.bind f).bind g) = r.bind fun x j => (f x j).bind g := by cases r <;> rfl
theorem body_y {T : List GT} (hT : GoodT T) {ex : Nat → PR GTree} (h : ExY T ex) (i : Nat) : Gd (bodyS T ex i) (YT T i 1) := by
  unfold bodyS
  rw [← bind_assoc']
  refine Gd.bind (row_y hT h i) ?_
  rintro l k ⟨q, rfl, h1, h2⟩
  refine Gd.ok ⟨?_, ?_⟩
  · rw [h1]; simp [yT, yo_none (s := gE) (n := 0) (show named 16 = false by decide) (by decide)]
  · simp only [nT, List.nil_append]; omega
theorem list_y {T : List GT} (hT : GoodT T) {ex : Nat → PR GTree} (h : ExY T ex) (e : ByteArray) (i : Nat) : Gd (listS T ex e i) (fun l j => pY T j = pY T i ++ yL l ∧ nL l + i + 1 ≤ j) := by
  unfold listS
  split
  · rename_i hi; exact Gd.ok ⟨by rw [pY_is hT hi]; simp [yL], by simp [nL]⟩
  · rw [show ((ex i).bind fun t j => (moreS T ex (T.length + 1) j [t]).bind fun l k => (wantS T k e).bind fun _ m => PR.ok l m) = ((ex i).bind fun t j => moreS T ex (T.length + 1) j [t]).bind fun l k => (wantS T k e).bind fun _ m => PR.ok l m from (bind_assoc' _ _ _).symm]
    refine Gd.bind (row_y hT h i) ?_
    rintro l k ⟨q, rfl, h1, h2⟩
    refine Gd.bind (want_y hT k e) fun _ m hm => Gd.ok ⟨by rw [hm.1, h1], by have := hm.2; omega⟩
def LvY (T : List GT) (L : Lv) : Prop := ExY T L.ex ∧ ExY T L.un
theorem clauses_y {T : List GT} (hT : GoodT T) {L : Lv} (h : LvY T L) : ∀ f i acc, Gd (clausesS T L f i acc) (YLs T i 1 acc)
  | 0, i, acc => Gd.ok ⟨[], by simp, by simp [yL], by simp [nL]⟩
  | f + 1, i, acc => by
    unfold clausesS
    refine Gd.bind (h.2 i) fun x j hx => Gd.bind (want_y hT j sArrow) fun _ k hk => Gd.bind (body_y hT h.1 k) fun b m hb => ?_
    have e1 : pY T m = pY T i ++ (yT x ++ yT b) := by rw [hb.1, hk.1, hx.1]; simp
    have e2 : nT x + nT b + i + 1 ≤ m + 1 := by have := hx.2; have := hk.2; have := hb.2; omega
    have e3 : yT (.node 15 gE 0 [] [x, b]) = yT x ++ yT b := by simp [yT, yL, yo_none (s := gE) (n := 0) (show named 15 = false by decide) (by decide)]
    have e4 : nT (.node 15 gE 0 [] [x, b]) = nT x + nT b + 1 := by simp [nT, nL]
    split
    · rename_i hi
      refine (clauses_y hT h f (m + 1) _).mono ?_
      rintro l q ⟨r, rfl, h1, h2⟩
      refine ⟨.node 15 gE 0 [] [x, b] :: r, by simp, ?_, ?_⟩
      · rw [h1, pY_is hT hi, e1]; simp only [yL, e3, List.append_assoc]
      · simp only [nL, e4]; omega
    · refine Gd.ok ⟨[.node 15 gE 0 [] [x, b]], rfl, ?_, ?_⟩
      · rw [e1, yL_one, e3]
      · rw [nL_one, e4]; omega
theorem node_y (kd : Int) (h1 : named kd = false) (h2 : kd ≠ 1) (s : ByteArray) (l : List GTree) : yT (.node kd s 0 [] l) = yL l := by simp [yT, yo_none h1 h2]
theorem case_y {T : List GT} (hT : GoodT T) {L : Lv} (h : LvY T L) (i : Nat) : Gd (caseS T L i) (fun t j => pY T j = pY T i ++ yT t ∧ nT t + i ≤ j + 1) := by
  unfold caseS
  refine Gd.bind (h.1 i) fun t j ht => Gd.bind (want_y hT j sOf) fun _ k hk => Gd.bind (clauses_y hT h _ k []) ?_
  rintro l m ⟨q, rfl, h1, h2⟩
  refine Gd.bind (want_y hT m sEnd) fun _ z hz => Gd.ok ⟨?_, ?_⟩
  · rw [node_y 12 (by decide) (by decide), hz.1, h1, hk.1, ht.1]; simp [yL]
  · have := ht.2; have := hk.2; have := hz.2; simp only [nT, nL, List.nil_append]; omega
theorem head_y {T : List GT} (hT : GoodT T) {L : Lv} (h : LvY T L) (i : Nat) : Gd (headS T L i) (YLs T i 1 []) := by
  unfold headS
  split
  · exact Gd.ok ⟨[], by simp, by simp [yL], by simp [nL]⟩
  · exact clauses_y hT h _ i []
theorem after_y {T : List GT} (hT : GoodT T) {L : Lv} (h : LvY T L) (acc : List GTree) (i : Nat) : Gd (afterS T L acc i) (YLs T i 0 acc) := by
  unfold afterS
  split
  · rename_i hi
    refine Gd.bind (h.1 (i + 1)) fun x k hx => Gd.bind (want_y hT k sArrow) fun _ m hm => Gd.bind (body_y hT h.1 m) fun b q hb => Gd.ok ⟨[.node 14 gE 0 [] [x, b]], rfl, ?_, ?_⟩
    · rw [yL_one, node_y 14 (by decide) (by decide), hb.1, hm.1, hx.1, pY_is hT hi]; simp [yL]
    · have := hx.2; have := hm.2; have := hb.2; rw [nL_one]; simp only [nT, nL]; omega
  · exact Gd.ok ⟨[], by simp, by simp [yL], by simp [nL]⟩
theorem recv_y {T : List GT} (hT : GoodT T) {L : Lv} (h : LvY T L) (i : Nat) : Gd (recvS T L i) (fun t j => pY T j = pY T i ++ yT t ∧ nT t + i ≤ j + 1) := by
  unfold recvS
  refine Gd.bind (head_y hT h i) ?_
  rintro l j ⟨q, rfl, h1, h2⟩
  refine Gd.bind (after_y hT h _ j) ?_
  rintro l k ⟨r, rfl, h3, h4⟩
  refine Gd.bind (want_y hT k sEnd) fun _ z hz => Gd.ok ⟨?_, ?_⟩
  · rw [node_y 13 (by decide) (by decide), hz.1, h3, h1]; simp [yL_app]
  · have := hz.2; simp only [nT, List.nil_append, nL_app]; omega
theorem paren_y {T : List GT} (hT : GoodT T) {L : Lv} (h : LvY T L) (i : Nat) : Gd (parenS T L i) (fun t j => pY T j = pY T i ++ yT t ∧ nT t + i ≤ j + 1) := by
  unfold parenS
  refine Gd.bind (h.1 i) fun x j hx => Gd.bind (want_y hT j sShut) fun _ k hk => Gd.ok ⟨by rw [hk.1, hx.1], by have := hx.2; have := hk.2; omega⟩
theorem rowS_y {T : List GT} (hT : GoodT T) {L : Lv} (h : LvY T L) (kd : Int) (s e : ByteArray) (i : Nat) : Gd (rowS T kd s e L i) (fun t j => ∃ l, t = .node kd s 0 [] l ∧ pY T j = pY T i ++ yL l ∧ nT t + i ≤ j) := by
  unfold rowS
  refine Gd.bind (list_y hT h.1 e i) fun l k hl => Gd.ok ⟨l, rfl, hl.1, by have := hl.2; simp only [nT]; omega⟩
def LoY (T : List GT) (lo : Option Lv) : Prop := ∀ L, lo = some L → LvY T L
theorem within_y {T : List GT} {lo : Option Lv} (h : LoY T lo) (i : Nat) {f : Lv → Nat → PR GTree} {Q : GTree → Nat → Prop} (hf : ∀ L, LvY T L → Gd (f L (i + 1)) Q) : Gd (withinS lo i f) Q := by
  unfold withinS
  cases lo with
  | none => exact Gd.bad
  | some L => exact hf L (h L rfl)
theorem opens_y {T : List GT} (hT : GoodT T) {lo : Option Lv} (h : LoY T lo) (i : Nat) : Gd (opensS T lo i) (YT T i 0) := by
  unfold opensS
  split
  · rename_i hi
    exact within_y h i fun L hL => (paren_y hT hL _).mono fun t j ht => ⟨by rw [ht.1, pY_is hT hi], by have := ht.2; omega⟩
  split
  · rename_i hi
    refine within_y h i fun L hL => (rowS_y hT hL _ _ _ _).mono ?_
    rintro t j ⟨l, rfl, h1, h2⟩
    exact ⟨by rw [node_y 5 (by decide) (by decide), h1, pY_is hT hi], by omega⟩
  split
  · rename_i hi
    refine within_y h i fun L hL => (rowS_y hT hL _ _ _ _).mono ?_
    rintro t j ⟨l, rfl, h1, h2⟩
    exact ⟨by rw [node_y 6 (by decide) (by decide), h1, pY_is hT hi], by omega⟩
  split
  · rename_i hi
    exact within_y h i fun L hL => (case_y hT hL _).mono fun t j ht => ⟨by rw [ht.1, pY_is hT hi], by have := ht.2; omega⟩
  split
  · rename_i hi
    exact within_y h i fun L hL => (recv_y hT hL _).mono fun t j ht => ⟨by rw [ht.1, pY_is hT hi], by have := ht.2; omega⟩
  · exact Gd.bad
theorem prim_y {T : List GT} (hT : GoodT T) {lo : Option Lv} (h : LoY T lo) : ExY T (primS T lo) := fun i => by
  unfold primS
  cases ht : T[i]? with
  | none => exact Gd.bad
  | some t =>
    have hb := hT t (List.mem_of_getElem? ht)
    have hp := pY_at ht
    dsimp only
    split
    · rename_i h1
      have hb' : t.b = [] := good_b hb (by omega)
      exact Gd.ok ⟨by rw [hp]; simp [yK, yT, yL, yo, h1, hb', named], by simp [nT, nL]; omega⟩
    split
    · rename_i h1 h2
      have hb' : t.b = [] := good_b hb (by omega)
      exact Gd.ok ⟨by rw [hp]; simp [yK, yT, yL, yo, h2, hb', named], by simp [nT, nL]; omega⟩
    split
    · rename_i h1 h2 h3
      exact Gd.ok ⟨by rw [hp]; simp [yK, yT, yL, yo, h3, named], by simp [nT, nL]; omega⟩
    split
    · rename_i h1 h2 h3 h4
      have hb' : t.b = [] := good_b hb (by omega)
      have hk : yK t = [Yd.nm t.s] := by simp [yK, h4, hb']
      split
      · rename_i h5
        refine within_y h (i + 1) fun L hL => (rowS_y hT hL _ _ _ _).mono ?_
        rintro u j ⟨l, rfl, q1, q2⟩
        refine ⟨?_, by omega⟩
        rw [q1, pY_is hT h5, hp, hk]
        simp [yT, yo, named]
      · exact Gd.ok ⟨by rw [hp, hk]; simp [yT, yL, yo, named], by simp [nT, nL]; omega⟩
    · exact opens_y hT h i
theorem unary_y {T : List GT} (hT : GoodT T) {lo : Option Lv} (h : LoY T lo) : ExY T (unaryS T lo) := fun i => by
  unfold unaryS
  split
  · rename_i hi
    refine within_y h i fun L hL => Gd.bind (hL.2 (i + 1)) fun x k hx => Gd.ok ⟨?_, ?_⟩
    · rw [node_y 7 (by decide) (by decide), yL_one, hx.1, pY_is hT hi]
    · have := hx.2; simp only [nT, nL]; omega
  · exact prim_y hT h i
theorem one_is {T : List GT} {i : Nat} {l : List ByteArray} {s : ByteArray} (h : oneS T i l = some s) : isAt T i s = true := by
  unfold oneS at h
  exact List.find?_some h
theorem chain_y {T : List GT} (hT : GoodT T) {sub : Nat → PR GTree} (h : ExY T sub) (signs : List ByteArray) : ∀ (f i i0 : Nat) (a : GTree), YT T i0 0 a i → Gd (chainS T sub signs f i a) (YT T i0 0)
  | 0, i, i0, a, ha => Gd.ok ha
  | f + 1, i, i0, a, ha => by
    unfold chainS
    split
    · exact Gd.ok ha
    · rename_i s hs
      refine Gd.bind (h (i + 1)) fun b j hb => chain_y hT h signs f j i0 _ ⟨?_, ?_⟩
      · rw [node_y 8 (by decide) (by decide), hb.1, pY_is hT (one_is hs), ha.1]; simp [yL]
      · have := ha.2; have := hb.2; simp only [nT, nL]; omega
theorem prod_y {T : List GT} (hT : GoodT T) {lo : Option Lv} (h : LoY T lo) : ExY T (prodS T lo) := fun i => Gd.bind (unary_y hT h i) fun a j ha => chain_y hT (unary_y hT h) _ _ j i a ha
theorem sum_y {T : List GT} (hT : GoodT T) {lo : Option Lv} (h : LoY T lo) : ExY T (sumS T lo) := fun i => Gd.bind (prod_y hT h i) fun a j ha => chain_y hT (prod_y hT h) _ _ j i a ha
theorem cmp_y {T : List GT} (hT : GoodT T) {lo : Option Lv} (h : LoY T lo) : ExY T (cmpS T lo) := fun i => Gd.bind (sum_y hT h i) fun a j ha => by
  split
  · exact Gd.ok ha
  · rename_i s hs
    refine Gd.bind (sum_y hT h (j + 1)) fun b k hb => Gd.ok ⟨?_, ?_⟩
    · rw [node_y 8 (by decide) (by decide), hb.1, pY_is hT (one_is hs), ha.1]; simp [yL]
    · have := ha.2; have := hb.2; simp only [nT, nL]; omega
theorem join_y {T : List GT} (hT : GoodT T) {lo : Option Lv} (h : LoY T lo) (kd : Int) (h1 : named kd = false) (h2 : kd ≠ 1) (i j : Nat) (a : GTree) (ha : YT T i 0 a j) (hp : pY T (j + 1) = pY T j) : Gd (joinS lo kd a j) (YT T i 0) := by
  refine within_y h j fun L hL => Gd.bind (hL.1 (j + 1)) fun b m hb => Gd.ok ⟨?_, ?_⟩
  · rw [node_y kd h1 h2, hb.1, hp, ha.1]; simp [yL]
  · have := ha.2; have := hb.2; simp only [nT, nL]; omega
theorem expr_y {T : List GT} (hT : GoodT T) {lo : Option Lv} (h : LoY T lo) : ExY T (exprS T lo) := fun i => Gd.bind (cmp_y hT h i) fun a j ha => by
  split
  · rename_i hi; exact join_y hT h 9 (by decide) (by decide) i j a ha (pY_is hT hi)
  split
  · rename_i hi; exact join_y hT h 10 (by decide) (by decide) i j a ha (pY_is hT hi)
  · exact Gd.ok ha
theorem lo_y {T : List GT} (hT : GoodT T) : ∀ n, LoY T (loS T n)
  | 0 => fun L h => by cases h
  | n + 1 => fun L h => by
    cases h
    exact ⟨expr_y hT (lo_y hT n), unary_y hT (lo_y hT n)⟩
theorem params_y {T : List GT} (hT : GoodT T) : ∀ f i acc, Gd (paramsS T f i acc) (YLs T i 0 acc)
  | 0, i, acc => Gd.ok ⟨[], by simp, by simp [yL], by simp [nL]⟩
  | f + 1, i, acc => by
    unfold paramsS
    split
    · exact Gd.ok ⟨[], by simp, by simp [yL], by simp [nL]⟩
    · refine Gd.bind (Q := fun _ j => pY T j = pY T i ∧ i ≤ j) ?_ fun _ j hj => ?_
      · split
        · exact Gd.ok ⟨rfl, Nat.le_refl _⟩
        · exact (want_y hT i sComma).mono fun _ j h => ⟨h.1, by have := h.2; omega⟩
      · cases ht : T[j]? with
        | none => exact Gd.bad
        | some t =>
          dsimp only
          split
          · rename_i h3
            have hb' : t.b = [] := good_b (hT t (List.mem_of_getElem? ht)) (by omega)
            refine (params_y hT f (j + 1) _).mono ?_
            rintro l k ⟨q, rfl, h1, h2⟩
            refine ⟨.node 3 t.s 0 [] [] :: q, by simp, ?_, ?_⟩
            · rw [h1, pY_at ht, hj.1]; simp [yK, yL, yT, yo, named, h3, hb']
            · have := hj.2; simp only [nL, nT]; omega
          · exact Gd.bad
theorem fun_y {T : List GT} (hT : GoodT T) (i : Nat) : Gd (funS T i) (fun t j => pY T j = pY T i ++ yT t ∧ nT t + i + 1 ≤ j) := by
  unfold funS
  cases ht : T[i]? with
  | none => exact Gd.bad
  | some t =>
    dsimp only
    split
    · rename_i h2
      have hb' : t.b = [] := good_b (hT t (List.mem_of_getElem? ht)) (by omega)
      refine Gd.bind (want_y hT (i + 1) sOpen) fun _ j hj => Gd.bind (params_y hT _ j []) ?_
      rintro l k ⟨q, rfl, h3, h4⟩
      refine Gd.bind (want_y hT k sShut) fun _ m hm => Gd.bind (want_y hT m sArrow) fun _ q' hq => Gd.bind (body_y hT (expr_y hT (lo_y hT 40)) q') fun b r hb => Gd.bind (want_y hT r sDot) fun _ z hz => Gd.ok ⟨?_, ?_⟩
      · rw [hz.1, hb.1, hq.1, hm.1, h3, hj.1, pY_at ht]
        simp [yT, yo, named, yK, h2, hb', yL_app, yL_one]
      · have := hj.2; have := hm.2; have := hq.2; have := hb.2; have := hz.2
        simp only [nT, List.nil_append, nL_app, nL_one]; omega
    · exact Gd.bad
theorem funs_y {T : List GT} (hT : GoodT T) : ∀ f i acc, T.length < f + i → Gd (funsS T f i acc) (fun l j => T.length ≤ j ∧ ∃ q, l = acc ++ q ∧ pY T j = pY T i ++ yL q ∧ (q = [] ∨ nL q + i + 1 ≤ j))
  | 0, i, acc, hf => Gd.ok ⟨by omega, [], by simp, by simp [yL], .inl rfl⟩
  | f + 1, i, acc, hf => by
    unfold funsS
    split
    · refine Gd.bind (Q := fun t j => (pY T j = pY T i ++ yT t ∧ nT t + i + 1 ≤ j) ∧ i < j ∧ j ≤ T.length) (fun t j e => ⟨fun_y hT i t j e, funS_on T i t j e⟩) fun t j ht => (funs_y hT f j _ (by have := ht.2; omega)).mono ?_
      rintro l k ⟨h0, q, rfl, h1, h2⟩
      refine ⟨h0, t :: q, by simp, ?_, .inr ?_⟩
      · rw [h1, ht.1.1]; simp [yL]
      · have := ht.1.2
        rcases h2 with rfl | h2
        · simp only [nL]
          have := ht.2.2
          omega
        · simp only [nL]; omega
    · rename_i hi
      exact Gd.ok ⟨by omega, [], by simp, by simp [yL], .inl rfl⟩
def Bd (T : List GT) {α : Type} (r : PR α) : Prop := ∀ i c, r = .bad i c → i ≤ T.length ∧ (c = 160 ∨ c = 161)
theorem Bd.ok {T : List GT} {α : Type} {x : α} {j : Nat} : Bd T (.ok x j) := fun _ _ e => by cases e
theorem Bd.bad0 {T : List GT} {α : Type} {i : Nat} (h : i ≤ T.length) : Bd T (.bad i 160 : PR α) := fun _ _ e => by cases e; exact ⟨h, .inl rfl⟩
theorem Bd.bad1 {T : List GT} {α : Type} {i : Nat} (h : i ≤ T.length) : Bd T (.bad i 161 : PR α) := fun _ _ e => by cases e; exact ⟨h, .inr rfl⟩
theorem Bd.bind {T : List GT} {i : Nat} {α β : Type} {r : PR α} {f : α → Nat → PR β} (h : Bd T r) (ho : OnW T i r) (hi : i ≤ T.length) (hf : ∀ x j, j ≤ T.length → Bd T (f x j)) : Bd T (r.bind f) := by
  cases r with
  | bad k c => exact fun a b e => h a b (by cases e; rfl)
  | ok x j =>
    have := ho x j rfl
    exact hf x j (by omega)
structure XB (T : List GT) (f : Nat → PR GTree) : Prop where
  on : OnF T f
  bd : ∀ i, i ≤ T.length → Bd T (f i)
theorem want_b (T : List GT) {i : Nat} (hi : i ≤ T.length) (s : ByteArray) : Bd T (wantS T i s) := by
  unfold wantS
  split
  · exact Bd.ok
  · exact Bd.bad0 hi
theorem more_b {T : List GT} {ex : Nat → PR GTree} (h : XB T ex) : ∀ f i acc, i ≤ T.length → Bd T (moreS T ex f i acc)
  | 0, i, acc, hi => Bd.ok
  | f + 1, i, acc, hi => by
    unfold moreS
    split
    · rename_i h'
      have := isAt_lt h'
      exact Bd.bind (h.bd (i + 1) this) (h.on _).w this fun t j hj => more_b h f j _ hj
    · exact Bd.ok
theorem body_b {T : List GT} {ex : Nat → PR GTree} (h : XB T ex) {i : Nat} (hi : i ≤ T.length) : Bd T (bodyS T ex i) :=
  Bd.bind (h.bd i hi) (h.on i).w hi fun t j hj => Bd.bind (more_b h _ j _ hj) (moreS_on h.on _ j _) hj fun l k hk => Bd.ok
theorem list_b {T : List GT} {ex : Nat → PR GTree} (h : XB T ex) (e : ByteArray) {i : Nat} (hi : i ≤ T.length) : Bd T (listS T ex e i) := by
  unfold listS
  split
  · exact Bd.ok
  · exact Bd.bind (h.bd i hi) (h.on i).w hi fun t j hj => Bd.bind (more_b h _ j _ hj) (moreS_on h.on _ j _) hj fun l k hk => Bd.bind (want_b T hk e) (wantS_on T k e).w hk fun _ m hm => Bd.ok
structure LB (T : List GT) (L : Lv) : Prop where
  ex : XB T L.ex
  un : XB T L.un
theorem LB.on {T : List GT} {L : Lv} (h : LB T L) : OnL T L := ⟨h.ex.on, h.un.on⟩
theorem clauses_b {T : List GT} {L : Lv} (h : LB T L) : ∀ f i acc, i ≤ T.length → Bd T (clausesS T L f i acc)
  | 0, i, acc, hi => Bd.ok
  | f + 1, i, acc, hi => by
    unfold clausesS
    refine Bd.bind (h.un.bd i hi) (h.un.on i).w hi fun x j hj => Bd.bind (want_b T hj sArrow) (wantS_on T j sArrow).w hj fun _ k hk => Bd.bind (body_b h.ex hk) (bodyS_on h.ex.on k).w hk fun b m hm => ?_
    split
    · rename_i h'
      exact clauses_b h f (m + 1) _ (isAt_lt h')
    · exact Bd.ok
theorem case_b {T : List GT} {L : Lv} (h : LB T L) {i : Nat} (hi : i ≤ T.length) : Bd T (caseS T L i) :=
  Bd.bind (h.ex.bd i hi) (h.ex.on i).w hi fun t j hj => Bd.bind (want_b T hj sOf) (wantS_on T j sOf).w hj fun _ k hk => Bd.bind (clauses_b h _ k _ hk) (clausesS_on h.on _ k _) hk fun l m hm => Bd.bind (want_b T hm sEnd) (wantS_on T m sEnd).w hm fun _ q hq => Bd.ok
theorem head_b {T : List GT} {L : Lv} (h : LB T L) {i : Nat} (hi : i ≤ T.length) : Bd T (headS T L i) := by
  unfold headS
  split
  · exact Bd.ok
  · exact clauses_b h _ _ _ hi
theorem after_b {T : List GT} {L : Lv} (h : LB T L) (l : List GTree) {i : Nat} (hi : i ≤ T.length) : Bd T (afterS T L l i) := by
  unfold afterS
  split
  · rename_i h'
    have := isAt_lt h'
    exact Bd.bind (h.ex.bd (i + 1) this) (h.ex.on _).w this fun x k hk => Bd.bind (want_b T hk sArrow) (wantS_on T k sArrow).w hk fun _ m hm => Bd.bind (body_b h.ex hm) (bodyS_on h.ex.on m).w hm fun b q hq => Bd.ok
  · exact Bd.ok
theorem recv_b {T : List GT} {L : Lv} (h : LB T L) {i : Nat} (hi : i ≤ T.length) : Bd T (recvS T L i) :=
  Bd.bind (head_b h hi) (headS_on h.on i) hi fun l j hj => Bd.bind (after_b h l hj) (afterS_on h.on l j) hj fun l k hk => Bd.bind (want_b T hk sEnd) (wantS_on T k sEnd).w hk fun _ z hz => Bd.ok
theorem paren_b {T : List GT} {L : Lv} (h : LB T L) {i : Nat} (hi : i ≤ T.length) : Bd T (parenS T L i) :=
  Bd.bind (h.ex.bd i hi) (h.ex.on i).w hi fun x j hj => Bd.bind (want_b T hj sShut) (wantS_on T j sShut).w hj fun _ k hk => Bd.ok
theorem rowS_b {T : List GT} {L : Lv} (h : LB T L) (kd : Int) (s e : ByteArray) {i : Nat} (hi : i ≤ T.length) : Bd T (rowS T kd s e L i) :=
  Bd.bind (list_b h.ex e hi) (listS_on h.ex.on e i).w hi fun l k hk => Bd.ok
def LoB (T : List GT) (lo : Option Lv) : Prop := ∀ L, lo = some L → LB T L
theorem LoB.on {T : List GT} {lo : Option Lv} (h : LoB T lo) : OnO T lo := fun L e => (h L e).on
theorem within_b {T : List GT} {lo : Option Lv} (h : LoB T lo) {i : Nat} (hi : i + 1 ≤ T.length) {f : Lv → Nat → PR GTree} (hf : ∀ L, LB T L → Bd T (f L (i + 1))) : Bd T (withinS lo i f) := by
  unfold withinS
  cases lo with
  | none => exact Bd.bad1 (by omega)
  | some L => exact hf L (h L rfl)
theorem opens_b {T : List GT} {lo : Option Lv} (h : LoB T lo) {i : Nat} (hi : i ≤ T.length) : Bd T (opensS T lo i) := by
  unfold opensS
  split
  · rename_i h'; exact within_b h (isAt_lt h') fun L hL => paren_b hL (isAt_lt h')
  split
  · rename_i h'; exact within_b h (isAt_lt h') fun L hL => rowS_b hL _ _ _ (isAt_lt h')
  split
  · rename_i h'; exact within_b h (isAt_lt h') fun L hL => rowS_b hL _ _ _ (isAt_lt h')
  split
  · rename_i h'; exact within_b h (isAt_lt h') fun L hL => case_b hL (isAt_lt h')
  split
  · rename_i h'; exact within_b h (isAt_lt h') fun L hL => recv_b hL (isAt_lt h')
  · exact Bd.bad0 hi
theorem prim_b {T : List GT} {lo : Option Lv} (h : LoB T lo) : XB T (primS T lo) := ⟨primS_on h.on, fun i hi => by
  unfold primS
  cases ht : T[i]? with
  | none => exact Bd.bad0 hi
  | some t =>
    dsimp only
    split
    · exact Bd.ok
    split
    · exact Bd.ok
    split
    · exact Bd.ok
    split
    · split
      · rename_i h'; exact within_b h (isAt_lt h') fun L hL => rowS_b hL _ _ _ (isAt_lt h')
      · exact Bd.ok
    · exact opens_b h hi⟩
theorem unary_b {T : List GT} {lo : Option Lv} (h : LoB T lo) : XB T (unaryS T lo) := ⟨unaryS_on h.on, fun i hi => by
  unfold unaryS
  split
  · rename_i h'
    exact within_b h (isAt_lt h') fun L hL => Bd.bind (hL.un.bd _ (isAt_lt h')) (hL.un.on _).w (isAt_lt h') fun x k hk => Bd.ok
  · exact (prim_b h).bd i hi⟩
theorem oneS_lt {T : List GT} {i : Nat} {l : List ByteArray} {s : ByteArray} (h : oneS T i l = some s) : i < T.length := by
  unfold oneS at h
  exact isAt_lt (List.find?_some h)
theorem chain_b {T : List GT} {sub : Nat → PR GTree} (h : XB T sub) (signs : List ByteArray) : ∀ f i a, i ≤ T.length → Bd T (chainS T sub signs f i a)
  | 0, i, a, hi => Bd.ok
  | f + 1, i, a, hi => by
    unfold chainS
    split
    · exact Bd.ok
    · rename_i s hs
      have := oneS_lt hs
      exact Bd.bind (h.bd _ this) (h.on _).w this fun b j hj => chain_b h signs f j _ hj
theorem prod_b {T : List GT} {lo : Option Lv} (h : LoB T lo) : XB T (prodS T lo) := ⟨prodS_on h.on, fun i hi => Bd.bind ((unary_b h).bd i hi) ((unary_b h).on i).w hi fun a j hj => chain_b (unary_b h) _ _ j a hj⟩
theorem sum_b {T : List GT} {lo : Option Lv} (h : LoB T lo) : XB T (sumS T lo) := ⟨sumS_on h.on, fun i hi => Bd.bind ((prod_b h).bd i hi) ((prod_b h).on i).w hi fun a j hj => chain_b (prod_b h) _ _ j a hj⟩
theorem cmp_b {T : List GT} {lo : Option Lv} (h : LoB T lo) : XB T (cmpS T lo) := ⟨cmpS_on h.on, fun i hi => Bd.bind ((sum_b h).bd i hi) ((sum_b h).on i).w hi fun a j hj => by
  split
  · exact Bd.ok
  · rename_i s hs
    have := oneS_lt hs
    exact Bd.bind ((sum_b h).bd _ this) ((sum_b h).on _).w this fun b k hk => Bd.ok⟩
theorem join_b {T : List GT} {lo : Option Lv} (h : LoB T lo) (kd : Int) (a : GTree) {j : Nat} (hj : j + 1 ≤ T.length) : Bd T (joinS lo kd a j) :=
  within_b h hj fun L hL => Bd.bind (hL.ex.bd _ hj) (hL.ex.on _).w hj fun b m hm => Bd.ok
theorem expr_b {T : List GT} {lo : Option Lv} (h : LoB T lo) : XB T (exprS T lo) := ⟨exprS_on h.on, fun i hi => Bd.bind ((cmp_b h).bd i hi) ((cmp_b h).on i).w hi fun a j hj => by
  split
  · rename_i h'; exact join_b h 9 a (isAt_lt h')
  split
  · rename_i h'; exact join_b h 10 a (isAt_lt h')
  · exact Bd.ok⟩
theorem lo_b (T : List GT) : ∀ n, LoB T (loS T n)
  | 0 => fun L h => by cases h
  | n + 1 => fun L h => by
    cases h
    exact ⟨expr_b (lo_b T n), unary_b (lo_b T n)⟩
theorem params_b (T : List GT) : ∀ f i acc, i ≤ T.length → Bd T (paramsS T f i acc)
  | 0, i, acc, hi => Bd.ok
  | f + 1, i, acc, hi => by
    unfold paramsS
    split
    · exact Bd.ok
    · refine Bd.bind (i := i) ?_ ?_ hi fun _ j hj => ?_
      · split
        · exact Bd.ok
        · exact want_b T hi sComma
      · split
        · exact OnW.ok ⟨Nat.le_refl _, .inr rfl⟩
        · exact (wantS_on T i sComma).w
      · cases ht : T[j]? with
        | none => exact Bd.bad0 hj
        | some t =>
          dsimp only
          have hl : j < T.length := (List.getElem?_eq_some_iff.1 ht).1
          split
          · exact params_b T f (j + 1) _ hl
          · exact Bd.bad0 hj
theorem fun_b (T : List GT) {i : Nat} (hi : i ≤ T.length) : Bd T (funS T i) := by
  unfold funS
  cases ht : T[i]? with
  | none => exact Bd.bad0 hi
  | some t =>
    have hl : i < T.length := (List.getElem?_eq_some_iff.1 ht).1
    dsimp only
    split
    · exact Bd.bind (want_b T hl sOpen) (wantS_on T (i + 1) sOpen).w hl fun _ j hj => Bd.bind (params_b T _ j [] hj) (paramsS_on T _ j []) hj fun l k hk => Bd.bind (want_b T hk sShut) (wantS_on T k sShut).w hk fun _ m hm => Bd.bind (want_b T hm sArrow) (wantS_on T m sArrow).w hm fun _ q hq => Bd.bind (body_b (expr_b (lo_b T 40)) hq) (bodyS_on (exprS_on (loS_on T 40)) q).w hq fun b r hr => Bd.bind (want_b T hr sDot) (wantS_on T r sDot).w hr fun _ z hz => Bd.ok
    · exact Bd.bad0 hi
theorem funs_b (T : List GT) : ∀ f i acc, i ≤ T.length → Bd T (funsS T f i acc)
  | 0, i, acc, hi => Bd.ok
  | f + 1, i, acc, hi => by
    unfold funsS
    split
    · exact Bd.bind (fun_b T hi) (funS_on T i).w hi fun t j hj => funs_b T f j _ hj
    · exact Bd.ok
theorem OnW_funs (T : List GT) : ∀ f i acc, i ≤ T.length → OnW T i (funsS T f i acc)
  | 0, i, acc, hi => OnW.ok ⟨Nat.le_refl _, .inr rfl⟩
  | f + 1, i, acc, hi => by
    unfold funsS
    split
    · intro x j e
      cases hf : funS T i with
      | bad k c => rw [hf] at e; cases e
      | ok t k =>
        rw [hf] at e
        have h1 := funS_on T i t k hf
        have := OnW_funs T f k _ h1.2 x j e
        omega
    · exact OnW.ok ⟨Nat.le_refl _, .inr rfl⟩
theorem parse_b (T : List GT) : Bd T (parseS T) := Bd.bind (i := 0) (funs_b T _ 0 [] (Nat.zero_le _)) (OnW_funs T _ 0 [] (Nat.zero_le _)) (Nat.zero_le _) fun l j hj => Bd.ok
end Go.Proofs.YtejidddjkngoiaaDoor
