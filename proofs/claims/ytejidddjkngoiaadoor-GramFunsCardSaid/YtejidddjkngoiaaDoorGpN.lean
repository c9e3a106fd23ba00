/- gram: the names of a tree: those of the first 4000 parts in their order. What a text's tokens yield stands in its tree in the same order; its parts are no more than the tokens. Where and how tokens are bad. gram: tokens behind others: what is parsed of the first ones stays; what is parsed of the later ones is shifted. gram: a token's place plays no part in what is parsed. -/
import Derived.Test.YtejidddjkngoiaaDoorGmZ
import Derived.Test.YtejidddjkngoiaaDoorGmS
namespace Go.Proofs.YtejidddjkngoiaaDoor
open Go.RowKit
set_option linter.all false

mutual
/-- A tree and all in it, in their order. -/
def preT : GTree → List GTree
  | .node kd s n b l => .node kd s n b l :: preL l
def preL : List GTree → List GTree
  | [] => []
  | t :: r => preT t ++ preL r
end
def nameOf : GTree → Option ByteArray
  | .node kd s _ _ _ => if named kd then some s else none
mutual
/-- The names are those of the first 4000 met. -/
theorem nmT_pre : ∀ (t : GTree) (cnt : Nat) (out : List ByteArray), cnt ≤ 4000 → nmT t (cnt, out) = (min (cnt + (preT t).length) 4000, out ++ ((preT t).take (4000 - cnt)).filterMap nameOf)
  | .node kd s n b l, cnt, out, h => by
    unfold nmT preT
    by_cases hc : cnt = 4000
    · subst hc
      simp
    · rw [if_neg hc, nmL_pre l (cnt + 1) _ (by omega)]
      obtain ⟨m, hm⟩ : ∃ m, 4000 - cnt = m + 1 := ⟨4000 - cnt - 1, by omega⟩
      rw [hm, show 4000 - (cnt + 1) = m by omega, List.take_succ_cons, List.filterMap_cons]
      refine Prod.ext ?_ ?_
      · simp
        omega
      · simp only [nameOf]
        cases named kd <;> simp
theorem nmL_pre : ∀ (l : List GTree) (cnt : Nat) (out : List ByteArray), cnt ≤ 4000 → nmL l (cnt, out) = (min (cnt + (preL l).length) 4000, out ++ ((preL l).take (4000 - cnt)).filterMap nameOf)
  | [], cnt, out, h => by
    unfold nmL preL
    simp
    omega
  | t :: r, cnt, out, h => by
    unfold nmL preL
    rw [nmT_pre t cnt out h, nmL_pre r _ _ (by omega), List.take_append, List.filterMap_append]
    refine Prod.ext ?_ ?_
    · simp
      omega
    · simp only [List.append_assoc]
      rw [show 4000 - min (cnt + (preT t).length) 4000 = 4000 - cnt - (preT t).length by omega]
end
inductive Yd where
  | nm (s : ByteArray)
  | it (n : Int)
  | by_ (x : Int)
def yo (kd : Int) (s : ByteArray) (n : Int) (b : List Int) : List Yd := (if named kd then [Yd.nm s] else []) ++ ((if kd = 1 then [Yd.it n] else []) ++ b.map Yd.by_)
mutual
def yT : GTree → List Yd
  | .node kd s n b l => yo kd s n b ++ yL l
def yL : List GTree → List Yd
  | [] => []
  | t :: r => yT t ++ yL r
end
mutual
def nT : GTree → Nat
  | .node _ _ _ _ l => nL l + 1
def nL : List GTree → Nat
  | [] => 0
  | t :: r => nT t + nL r
end
theorem yL_app : ∀ a b : List GTree, yL (a ++ b) = yL a ++ yL b
  | [], b => rfl
  | t :: a, b => by simp only [List.cons_append, yL, yL_app a b, List.append_assoc]
theorem nL_app : ∀ a b : List GTree, nL (a ++ b) = nL a + nL b
  | [], b => by simp [nL]
  | t :: a, b => by simp only [List.cons_append, nL, nL_app a b]; omega
theorem yL_one (t : GTree) : yL [t] = yT t := by simp [yL]
theorem nL_one (t : GTree) : nL [t] = nT t := by simp [nL]
def yK (t : GT) : List Yd := (if t.kd = 2 ∨ t.kd = 3 then [Yd.nm t.s] else []) ++ ((if t.kd = 1 then [Yd.it t.n] else []) ++ t.b.map Yd.by_)
def GoodT (T : List GT) : Prop := ∀ t ∈ T, t.kd = 4 ∨ t.b = []
theorem good_b {t : GT} (h : t.kd = 4 ∨ t.b = []) (h4 : t.kd ≠ 4) : t.b = [] := h.resolve_left h4
def pY (T : List GT) (i : Nat) : List Yd := (T.take i).flatMap yK
theorem pY_at {T : List GT} {i : Nat} {t : GT} (h : T[i]? = some t) : pY T (i + 1) = pY T i ++ yK t := by
  obtain ⟨hi, h⟩ := List.getElem?_eq_some_iff.1 h
  unfold pY
  rw [← List.take_append_getElem hi, List.flatMap_append, h]
  simp
theorem pY_is {T : List GT} (hT : GoodT T) {i : Nat} {s : ByteArray} (h : isAt T i s = true) : pY T (i + 1) = pY T i := by
  unfold isAt at h
  cases ht : T[i]? with
  | none => rw [ht] at h; cases h
  | some t =>
    rw [ht] at h
    simp only [Bool.and_eq_true, Bool.or_eq_true, beq_iff_eq] at h
    have hb : t.b = [] := by
      rcases hT t (List.mem_of_getElem? ht) with h' | h'
      · omega
      · exact h'
    rw [pY_at ht]
    have h2 : ¬ (t.kd = 2 ∨ t.kd = 3) := by omega
    have h1 : ¬ t.kd = 1 := by omega
    simp [yK, hb, h2, h1]
def Gd {α : Type} (r : PR α) (Q : α → Nat → Prop) : Prop := ∀ x j, r = .ok x j → Q x j
theorem Gd.ok {α : Type} {Q : α → Nat → Prop} {x : α} {j : Nat} (h : Q x j) : Gd (.ok x j) Q := fun _ _ e => by cases e; exact h
theorem Gd.bad {α : Type} {Q : α → Nat → Prop} {j : Nat} {c : Int} : Gd (.bad j c : PR α) Q := fun _ _ e => by cases e
theorem Gd.bind {α β : Type} {r : PR α} {f : α → Nat → PR β} {Q : α → Nat → Prop} {R : β → Nat → Prop} (h : Gd r Q) (hf : ∀ x j, Q x j → Gd (f x j) R) : Gd (r.bind f) R := by
  cases r with
  | bad k c => exact Gd.bad
  | ok x j => exact hf x j (h x j rfl)
theorem Gd.mono {α : Type} {r : PR α} {Q R : α → Nat → Prop} (h : Gd r Q) (hm : ∀ x j, Q x j → R x j) : Gd r R := fun x j e => hm x j (h x j e)
/-- From i on: what a tree yields, and how many parts it has. -/
def YT (T : List GT) (i c : Nat) (t : GTree) (j : Nat) : Prop := pY T j = pY T i ++ yT t ∧ nT t + i ≤ j + c
def YLs (T : List GT) (i c : Nat) (acc l : List GTree) (j : Nat) : Prop := ∃ q, l = acc ++ q ∧ pY T j = pY T i ++ yL q ∧ nL q + i ≤ j + c
def ExY (T : List GT) (f : Nat → PR GTree) : Prop := ∀ i, Gd (f i) (YT T i 0)
theorem want_y {T : List GT} (hT : GoodT T) (i : Nat) (s : ByteArray) : Gd (wantS T i s) (fun _ j => pY T j = pY T i ∧ j = i + 1) := by
  unfold wantS
  split
  · rename_i h; exact Gd.ok ⟨pY_is hT h, rfl⟩
  · exact Gd.bad
theorem more_y {T : List GT} (hT : GoodT T) {ex : Nat → PR GTree} (h : ExY T ex) : ∀ f i acc, Gd (moreS T ex f i acc) (YLs T i 0 acc)
  | 0, i, acc => Gd.ok ⟨[], by simp, by simp [yL], by simp [nL]⟩
  | f + 1, i, acc => by
    unfold moreS
    split
    · rename_i hi
      refine Gd.bind (h (i + 1)) fun t j ht => (more_y hT h f j (acc ++ [t])).mono ?_
      rintro l k ⟨q, rfl, h1, h2⟩
      refine ⟨t :: q, by simp, ?_, ?_⟩
      · rw [h1, ht.1, pY_is hT hi]; simp [yL]
      · have := ht.2; simp only [nL]; omega
    · exact Gd.ok ⟨[], by simp, by simp [yL], by simp [nL]⟩
/-- Some with commas between. -/
theorem row_y {T : List GT} (hT : GoodT T) {ex : Nat → PR GTree} (h : ExY T ex) (i : Nat) : Gd ((ex i).bind fun t j => moreS T ex (T.length + 1) j [t]) (YLs T i 0 []) := by
  refine Gd.bind (h i) fun t j ht => (more_y hT h _ j [t]).mono ?_
  rintro l k ⟨q, rfl, h1, h2⟩
  refine ⟨t :: q, by simp, ?_, ?_⟩
  · rw [h1, ht.1]; simp [yL]
  · have := ht.2; simp only [nL]; omega
theorem yo_none {kd : Int} {s : ByteArray} {n : Int} (h1 : named kd = false) (h2 : kd ≠ 1) : yo kd s n [] = [] := by simp [yo, h1, h2]
theorem bind_assoc' {α β γ : Type} (r : PR α) (f : α → Nat → PR β) (g : β → Nat → PR γ) : ((r.bind f).bind g) = r.bind fun x j => (f x j).bind g := by cases r <;> rfl
theorem body_y {T : List GT} (hT : GoodT T) {ex : Nat → PR GTree} (h : ExY T ex) (i : Nat) : Gd (bodyS T ex i) (YT T i 1) := by
  unfold bodyS
  rw [← bind_assoc']
  refine Gd.bind (row_y hT h i) ?_
  rintro l k ⟨q, rfl, h1, h2⟩
  refine Gd.ok ⟨?_, ?_⟩
  · rw [h1]; simp [yT, yo_none (s := gE) (n := 0) (show named 16 = false by decide) (by decide)]
  · simp only [nT, List.nil_append]; omega
theorem list_y {T : List GT} (hT : GoodT T) {ex : Nat → PR GTree} (h : ExY T ex) (e : ByteArray) (i : Nat) : Gd (listS T ex e i) (fun l j => pY T j = pY T i ++ yL l ∧ nL l + i + 1 ≤ j) := by
  unfold listS
  split
  · rename_i hi; exact Gd.ok ⟨by rw [pY_is hT hi]; simp [yL], by simp [nL]⟩
  · rw [show ((ex i).bind fun t j => (moreS T ex (T.length + 1) j [t]).bind fun l k => (wantS T k e).bind fun _ m => PR.ok l m) = ((ex i).bind fun t j => moreS T ex (T.length + 1) j [t]).bind fun l k => (wantS T k e).bind fun _ m => PR.ok l m from (bind_assoc' _ _ _).symm]
    refine Gd.bind (row_y hT h i) ?_
    rintro l k ⟨q, rfl, h1, h2⟩
    refine Gd.bind (want_y hT k e) fun _ m hm => Gd.ok ⟨by rw [hm.1, h1], by have := hm.2; omega⟩
def LvY (T : List GT) (L : Lv) : Prop := ExY T L.ex ∧ ExY T L.un
theorem clauses_y {T : List GT} (hT : GoodT T) {L : Lv} (h : LvY T L) : ∀ f i acc, Gd (clausesS T L f i acc) (YLs T i 1 acc)
  | 0, i, acc => Gd.ok ⟨[], by simp, by simp [yL], by simp [nL]⟩
  | f + 1, i, acc => by
    unfold clausesS
    refine Gd.bind (h.2 i) fun x j hx => Gd.bind (want_y hT j sArrow) fun _ k hk => Gd.bind (body_y hT h.1 k) fun b m hb => ?_
    have e1 : pY T m = pY T i ++ (yT x ++ yT b) := by rw [hb.1, hk.1, hx.1]; simp
    have e2 : nT x + nT b + i + 1 ≤ m + 1 := by have := hx.2; have := hk.2; have := hb.2; omega
    have e3 : yT (.node 15 gE 0 [] [x, b]) = yT x ++ yT b := by simp [yT, yL, yo_none (s := gE) (n := 0) (show named 15 = false by decide) (by decide)]
    have e4 : nT (.node 15 gE 0 [] [x, b]) = nT x + nT b + 1 := by simp [nT, nL]
    split
    · rename_i hi
      refine (clauses_y hT h f (m + 1) _).mono ?_
      rintro l q ⟨r, rfl, h1, h2⟩
      refine ⟨.node 15 gE 0 [] [x, b] :: r, by simp, ?_, ?_⟩
      · rw [h1, pY_is hT hi, e1]; simp only [yL, e3, List.append_assoc]
      · simp only [nL, e4]; omega
    · refine Gd.ok ⟨[.node 15 gE 0 [] [x, b]], rfl, ?_, ?_⟩
      · rw [e1, yL_one, e3]
      · rw [nL_one, e4]; omega
theorem node_y (kd : Int) (h1 : named kd = false) (h2 : kd ≠ 1) (s : ByteArray) (l : List GTree) : yT (.node kd s 0 [] l) = yL l := by simp [yT, yo_none h1 h2]
theorem case_y {T : List GT} (hT : GoodT T) {L : Lv} (h : LvY T L) (i : Nat) : Gd (caseS T L i) (fun t j => pY T j = pY T i ++ yT t ∧ nT t + i ≤ j + 1) := by
  unfold caseS
  refine Gd.bind (h.1 i) fun t j ht => Gd.bind (want_y hT j sOf) fun _ k hk => Gd.bind (clauses_y hT h _ k []) ?_
  rintro l m ⟨q, rfl, h1, h2⟩
  refine Gd.bind (want_y hT m sEnd) fun _ z hz => Gd.ok ⟨?_, ?_⟩
  · rw [node_y 12 (by decide) (by decide), hz.1, h1, hk.1, ht.1]; simp [yL]
  · have := ht.2; have := hk.2; have := hz.2; simp only [nT, nL, List.nil_append]; omega
theorem head_y {T : List GT} (hT : GoodT T) {L : Lv} (h : LvY T L) (i : Nat) : Gd (headS T L i) (YLs T i 1 []) := by
  unfold headS
  split
  · exact Gd.ok ⟨[], by simp, by simp [yL], by simp [nL]⟩
  · exact clauses_y hT h _ i []
theorem after_y {T : List GT} (hT : GoodT T) {L : Lv} (h : LvY T L) (acc : List GTree) (i : Nat) : Gd (afterS T L acc i) (YLs T i 0 acc) := by
  unfold afterS
  split
  · rename_i hi
    refine Gd.bind (h.1 (i + 1)) fun x k hx => Gd.bind (want_y hT k sArrow) fun _ m hm => Gd.bind (body_y hT h.1 m) fun b q hb => Gd.ok ⟨[.node 14 gE 0 [] [x, b]], rfl, ?_, ?_⟩
    · rw [yL_one, node_y 14 (by decide) (by decide), hb.1, hm.1, hx.1, pY_is hT hi]; simp [yL]
    · have := hx.2; have := hm.2; have := hb.2; rw [nL_one]; simp only [nT, nL]; omega
  · exact Gd.ok ⟨[], by simp, by simp [yL], by simp [nL]⟩
theorem recv_y {T : List GT} (hT : GoodT T) {L : Lv} (h : LvY T L) (i : Nat) : Gd (recvS T L i) (fun t j => pY T j = pY T i ++ yT t ∧ nT t + i ≤ j + 1) := by
  unfold recvS
  refine Gd.bind (head_y hT h i) ?_
  rintro l j ⟨q, rfl, h1, h2⟩
  refine Gd.bind (after_y hT h _ j) ?_
  rintro l k ⟨r, rfl, h3, h4⟩
  refine Gd.bind (want_y hT k sEnd) fun _ z hz => Gd.ok ⟨?_, ?_⟩
  · rw [node_y 13 (by decide) (by decide), hz.1, h3, h1]; simp [yL_app]
  · have := hz.2; simp only [nT, List.nil_append, nL_app]; omega
theorem paren_y {T : List GT} (hT : GoodT T) {L : Lv} (h : LvY T L) (i : Nat) : Gd (parenS T L i) (fun t j => pY T j = pY T i ++ yT t ∧ nT t + i ≤ j + 1) := by
  unfold parenS
  refine Gd.bind (h.1 i) fun x j hx => Gd.bind (want_y hT j sShut) fun _ k hk => Gd.ok ⟨by rw [hk.1, hx.1], by have := hx.2; have := hk.2; omega⟩
theorem rowS_y {T : List GT} (hT : GoodT T) {L : Lv} (h : LvY T L) (kd : Int) (s e : ByteArray) (i : Nat) : Gd (rowS T kd s e L i) (fun t j => ∃ l, t = .node kd s 0 [] l ∧ pY T j = pY T i ++ yL l ∧ nT t + i ≤ j) := by
  unfold rowS
  refine Gd.bind (list_y hT h.1 e i) fun l k hl => Gd.ok ⟨l, rfl, hl.1, by have := hl.2; simp only [nT]; omega⟩
def LoY (T : List GT) (lo : Option Lv) : Prop := ∀ L, lo = some L → LvY T L
theorem within_y {T : List GT} {lo : Option Lv} (h : LoY T lo) (i : Nat) {f : Lv → Nat → PR GTree} {Q : GTree → Nat → Prop} (hf : ∀ L, LvY T L → Gd (f L (i + 1)) Q) : Gd (withinS lo i f) Q := by
  unfold withinS
  cases lo with
  | none => exact Gd.bad
  | some L => exact hf L (h L rfl)
theorem opens_y {T : List GT} (hT : GoodT T) {lo : Option Lv} (h : LoY T lo) (i : Nat) : Gd (opensS T lo i) (YT T i 0) := by
  unfold opensS
  split
  · rename_i hi
    exact within_y h i fun L hL => (paren_y hT hL _).mono fun t j ht => ⟨by rw [ht.1, pY_is hT hi], by have := ht.2; omega⟩
  split
  · rename_i hi
    refine within_y h i fun L hL => (rowS_y hT hL _ _ _ _).mono ?_
    rintro t j ⟨l, rfl, h1, h2⟩
    exact ⟨by rw [node_y 5 (by decide) (by decide), h1, pY_is hT hi], by omega⟩
  split
  · rename_i hi
    refine within_y h i fun L hL => (rowS_y hT hL _ _ _ _).mono ?_
    rintro t j ⟨l, rfl, h1, h2⟩
    exact ⟨by rw [node_y 6 (by decide) (by decide), h1, pY_is hT hi], by omega⟩
  split
  · rename_i hi
    exact within_y h i fun L hL => (case_y hT hL _).mono fun t j ht => ⟨by rw [ht.1, pY_is hT hi], by have := ht.2; omega⟩
  split
  · rename_i hi
    exact within_y h i fun L hL => (recv_y hT hL _).mono fun t j ht => ⟨by rw [ht.1, pY_is hT hi], by have := ht.2; omega⟩
  · exact Gd.bad
theorem prim_y {T : List GT} (hT : GoodT T) {lo : Option Lv} (h : LoY T lo) : ExY T (primS T lo) := fun i => by
  unfold primS
  cases ht : T[i]? with
  | none => exact Gd.bad
  | some t =>
    have hb := hT t (List.mem_of_getElem? ht)
    have hp := pY_at ht
    dsimp only
    split
    · rename_i h1
      have hb' : t.b = [] := good_b hb (by omega)
      exact Gd.ok ⟨by rw [hp]; simp [yK, yT, yL, yo, h1, hb', named], by simp [nT, nL]; omega⟩
    split
    · rename_i h1 h2
      have hb' : t.b = [] := good_b hb (by omega)
      exact Gd.ok ⟨by rw [hp]; simp [yK, yT, yL, yo, h2, hb', named], by simp [nT, nL]; omega⟩
    split
    · rename_i h1 h2 h3
      exact Gd.ok ⟨by rw [hp]; simp [yK, yT, yL, yo, h3, named], by simp [nT, nL]; omega⟩
    split
    · rename_i h1 h2 h3 h4
      have hb' : t.b = [] := good_b hb (by omega)
      have hk : yK t = [Yd.nm t.s] := by simp [yK, h4, hb']
      split
      · rename_i h5
        refine within_y h (i + 1) fun L hL => (rowS_y hT hL _ _ _ _).mono ?_
        rintro u j ⟨l, rfl, q1, q2⟩
        refine ⟨?_, by omega⟩
        rw [q1, pY_is hT h5, hp, hk]
        simp [yT, yo, named]
      · exact Gd.ok ⟨by rw [hp, hk]; simp [yT, yL, yo, named], by simp [nT, nL]; omega⟩
    · exact opens_y hT h i
theorem unary_y {T : List GT} (hT : GoodT T) {lo : Option Lv} (h : LoY T lo) : ExY T (unaryS T lo) := fun i => by
  unfold unaryS
  split
  · rename_i hi
    refine within_y h i fun L hL => Gd.bind (hL.2 (i + 1)) fun x k hx => Gd.ok ⟨?_, ?_⟩
    · rw [node_y 7 (by decide) (by decide), yL_one, hx.1, pY_is hT hi]
    · have := hx.2; simp only [nT, nL]; omega
  · exact prim_y hT h i
theorem one_is {T : List GT} {i : Nat} {l : List ByteArray} {s : ByteArray} (h : oneS T i l = some s) : isAt T i s = true := by
  unfold oneS at h
  exact List.find?_some h
theorem chain_y {T : List GT} (hT : GoodT T) {sub : Nat → PR GTree} (h : ExY T sub) (signs : List ByteArray) : ∀ (f i i0 : Nat) (a : GTree), YT T i0 0 a i → Gd (chainS T sub signs f i a) (YT T i0 0)
  | 0, i, i0, a, ha => Gd.ok ha
  | f + 1, i, i0, a, ha => by
    unfold chainS
    split
    · exact Gd.ok ha
    · rename_i s hs
      refine Gd.bind (h (i + 1)) fun b j hb => chain_y hT h signs f j i0 _ ⟨?_, ?_⟩
      · rw [node_y 8 (by decide) (by decide), hb.1, pY_is hT (one_is hs), ha.1]; simp [yL]
      · have := ha.2; have := hb.2; simp only [nT, nL]; omega
theorem prod_y {T : List GT} (hT : GoodT T) {lo : Option Lv} (h : LoY T lo) : ExY T (prodS T lo) := fun i => Gd.bind (unary_y hT h i) fun a j ha => chain_y hT (unary_y hT h) _ _ j i a ha
theorem sum_y {T : List GT} (hT : GoodT T) {lo : Option Lv} (h : LoY T lo) : ExY T (sumS T lo) := fun i => Gd.bind (prod_y hT h i) fun a j ha => chain_y hT (prod_y hT h) _ _ j i a ha
theorem cmp_y {T : List GT} (hT : GoodT T) {lo : Option Lv} (h : LoY T lo) : ExY T (cmpS T lo) := fun i => Gd.bind (sum_y hT h i) fun a j ha => by
  split
  · exact Gd.ok ha
  · rename_i s hs
    refine Gd.bind (sum_y hT h (j + 1)) fun b k hb => Gd.ok ⟨?_, ?_⟩
    · rw [node_y 8 (by decide) (by decide), hb.1, pY_is hT (one_is hs), ha.1]; simp [yL]
    · have := ha.2; have := hb.2; simp only [nT, nL]; omega
theorem join_y {T : List GT} (hT : GoodT T) {lo : Option Lv} (h : LoY T lo) (kd : Int) (h1 : named kd = false) (h2 : kd ≠ 1) (i j : Nat) (a : GTree) (ha : YT T i 0 a j) (hp : pY T (j + 1) = pY T j) : Gd (joinS lo kd a j) (YT T i 0) := by
  refine within_y h j fun L hL => Gd.bind (hL.1 (j + 1)) fun b m hb => Gd.ok ⟨?_, ?_⟩
  · rw [node_y kd h1 h2, hb.1, hp, ha.1]; simp [yL]
  · have := ha.2; have := hb.2; simp only [nT, nL]; omega
theorem expr_y {T : List GT} (hT : GoodT T) {lo : Option Lv} (h : LoY T lo) : ExY T (exprS T lo) := fun i => Gd.bind (cmp_y hT h i) fun a j ha => by
  split
  · rename_i hi; exact join_y hT h 9 (by decide) (by decide) i j a ha (pY_is hT hi)
  split
  · rename_i hi; exact join_y hT h 10 (by decide) (by decide) i j a ha (pY_is hT hi)
  · exact Gd.ok ha
theorem lo_y {T : List GT} (hT : GoodT T) : ∀ n, LoY T (loS T n)
  | 0 => fun L h => by cases h
  | n + 1 => fun L h => by
    cases h
    exact ⟨expr_y hT (lo_y hT n), unary_y hT (lo_y hT n)⟩
theorem params_y {T : List GT} (hT : GoodT T) : ∀ f i acc, Gd (paramsS T f i acc) (YLs T i 0 acc)
  | 0, i, acc => Gd.ok ⟨[], by simp, by simp [yL], by simp [nL]⟩
  | f + 1, i, acc => by
    unfold paramsS
    split
    · exact Gd.ok ⟨[], by simp, by simp [yL], by simp [nL]⟩
    · refine Gd.bind (Q := fun _ j => pY T j = pY T i ∧ i ≤ j) ?_ fun _ j hj => ?_
      · split
        · exact Gd.ok ⟨rfl, Nat.le_refl _⟩
        · exact (want_y hT i sComma).mono fun _ j h => ⟨h.1, by have := h.2; omega⟩
      · cases ht : T[j]? with
        | none => exact Gd.bad
        | some t =>
          dsimp only
          split
          · rename_i h3
            have hb' : t.b = [] := good_b (hT t (List.mem_of_getElem? ht)) (by omega)
            refine (params_y hT f (j + 1) _).mono ?_
            rintro l k ⟨q, rfl, h1, h2⟩
            refine ⟨.node 3 t.s 0 [] [] :: q, by simp, ?_, ?_⟩
            · rw [h1, pY_at ht, hj.1]; simp [yK, yL, yT, yo, named, h3, hb']
            · have := hj.2; simp only [nL, nT]; omega
          · exact Gd.bad
theorem fun_y {T : List GT} (hT : GoodT T) (i : Nat) : Gd (funS T i) (fun t j => pY T j = pY T i ++ yT t ∧ nT t + i + 1 ≤ j) := by
  unfold funS
  cases ht : T[i]? with
  | none => exact Gd.bad
  | some t =>
    dsimp only
    split
    · rename_i h2
      have hb' : t.b = [] := good_b (hT t (List.mem_of_getElem? ht)) (by omega)
      refine Gd.bind (want_y hT (i + 1) sOpen) fun _ j hj => Gd.bind (params_y hT _ j []) ?_
      rintro l k ⟨q, rfl, h3, h4⟩
      refine Gd.bind (want_y hT k sShut) fun _ m hm => Gd.bind (want_y hT m sArrow) fun _ q' hq => Gd.bind (body_y hT (expr_y hT (lo_y hT 40)) q') fun b r hb => Gd.bind (want_y hT r sDot) fun _ z hz => Gd.ok ⟨?_, ?_⟩
      · rw [hz.1, hb.1, hq.1, hm.1, h3, hj.1, pY_at ht]
        simp [yT, yo, named, yK, h2, hb', yL_app, yL_one]
      · have := hj.2; have := hm.2; have := hq.2; have := hb.2; have := hz.2
        simp only [nT, List.nil_append, nL_app, nL_one]; omega
    · exact Gd.bad
theorem funs_y {T : List GT} (hT : GoodT T) : ∀ f i acc, T.length < f + i → Gd (funsS T f i acc) (fun l j => T.length ≤ j ∧ ∃ q, l = acc ++ q ∧ pY T j = pY T i ++ yL q ∧ (q = [] ∨ nL q + i + 1 ≤ j))
  | 0, i, acc, hf => Gd.ok ⟨by omega, [], by simp, by simp [yL], .inl rfl⟩
  | f + 1, i, acc, hf => by
    unfold funsS
    split
    · refine Gd.bind (Q := fun t j => (pY T j = pY T i ++ yT t ∧ nT t + i + 1 ≤ j) ∧ i < j ∧ j ≤ T.length) (fun t j e => ⟨fun_y hT i t j e, funS_on T i t j e⟩) fun t j ht => (funs_y hT f j _ (by have := ht.2; omega)).mono ?_
      rintro l k ⟨h0, q, rfl, h1, h2⟩
      refine ⟨h0, t :: q, by simp, ?_, .inr ?_⟩
      · rw [h1, ht.1.1]; simp [yL]
      · have := ht.1.2
        rcases h2 with rfl | h2
        · simp only [nL]
          have := ht.2.2
          omega
        · simp only [nL]; omega
    · rename_i hi
      exact Gd.ok ⟨by omega, [], by simp, by simp [yL], .inl rfl⟩
def Bd (T : List GT) {α : Type} (r : PR α) : Prop := ∀ i c, r = .bad i c → i ≤ T.length ∧ (c = 160 ∨ c = 161)
theorem Bd.ok {T : List GT} {α : Type} {x : α} {j : Nat} : Bd T (.ok x j) := fun _ _ e => by cases e
theorem Bd.bad0 {T : List GT} {α : Type} {i : Nat} (h : i ≤ T.length) : Bd T (.bad i 160 : PR α) := fun _ _ e => by cases e; exact ⟨h, .inl rfl⟩
theorem Bd.bad1 {T : List GT} {α : Type} {i : Nat} (h : i ≤ T.length) : Bd T (.bad i 161 : PR α) := fun _ _ e => by cases e; exact ⟨h, .inr rfl⟩
theorem Bd.bind {T : List GT} {i : Nat} {α β : Type} {r : PR α} {f : α → Nat → PR β} (h : Bd T r) (ho : OnW T i r) (hi : i ≤ T.length) (hf : ∀ x j, j ≤ T.length → Bd T (f x j)) : Bd T (r.bind f) := by
  cases r with
  | bad k c => exact fun a b e => h a b (by cases e; rfl)
  | ok x j =>
    have := ho x j rfl
    exact hf x j (by omega)
structure XB (T : List GT) (f : Nat → PR GTree) : Prop where
  on : OnF T f
  bd : ∀ i, i ≤ T.length → Bd T (f i)
theorem want_b (T : List GT) {i : Nat} (hi : i ≤ T.length) (s : ByteArray) : Bd T (wantS T i s) := by
  unfold wantS
  split
  · exact Bd.ok
  · exact Bd.bad0 hi
theorem more_b {T : List GT} {ex : Nat → PR GTree} (h : XB T ex) : ∀ f i acc, i ≤ T.length → Bd T (moreS T ex f i acc)
  | 0, i, acc, hi => Bd.ok
  | f + 1, i, acc, hi => by
    unfold moreS
    split
    · rename_i h'
      have := isAt_lt h'
      exact Bd.bind (h.bd (i + 1) this) (h.on _).w this fun t j hj => more_b h f j _ hj
    · exact Bd.ok
theorem body_b {T : List GT} {ex : Nat → PR GTree} (h : XB T ex) {i : Nat} (hi : i ≤ T.length) : Bd T (bodyS T ex i) :=
  Bd.bind (h.bd i hi) (h.on i).w hi fun t j hj => Bd.bind (more_b h _ j _ hj) (moreS_on h.on _ j _) hj fun l k hk => Bd.ok
theorem list_b {T : List GT} {ex : Nat → PR GTree} (h : XB T ex) (e : ByteArray) {i : Nat} (hi : i ≤ T.length) : Bd T (listS T ex e i) := by
  unfold listS
  split
  · exact Bd.ok
  · exact Bd.bind (h.bd i hi) (h.on i).w hi fun t j hj => Bd.bind (more_b h _ j _ hj) (moreS_on h.on _ j _) hj fun l k hk => Bd.bind (want_b T hk e) (wantS_on T k e).w hk fun _ m hm => Bd.ok
structure LB (T : List GT) (L : Lv) : Prop where
  ex : XB T L.ex
  un : XB T L.un
theorem LB.on {T : List GT} {L : Lv} (h : LB T L) : OnL T L := ⟨h.ex.on, h.un.on⟩
theorem clauses_b {T : List GT} {L : Lv} (h : LB T L) : ∀ f i acc, i ≤ T.length → Bd T (clausesS T L f i acc)
  | 0, i, acc, hi => Bd.ok
  | f + 1, i, acc, hi => by
    unfold clausesS
    refine Bd.bind (h.un.bd i hi) (h.un.on i).w hi fun x j hj => Bd.bind (want_b T hj sArrow) (wantS_on T j sArrow).w hj fun _ k hk => Bd.bind (body_b h.ex hk) (bodyS_on h.ex.on k).w hk fun b m hm => ?_
    split
    · rename_i h'
      exact clauses_b h f (m + 1) _ (isAt_lt h')
    · exact Bd.ok
theorem case_b {T : List GT} {L : Lv} (h : LB T L) {i : Nat} (hi : i ≤ T.length) : Bd T (caseS T L i) :=
  Bd.bind (h.ex.bd i hi) (h.ex.on i).w hi fun t j hj => Bd.bind (want_b T hj sOf) (wantS_on T j sOf).w hj fun _ k hk => Bd.bind (clauses_b h _ k _ hk) (clausesS_on h.on _ k _) hk fun l m hm => Bd.bind (want_b T hm sEnd) (wantS_on T m sEnd).w hm fun _ q hq => Bd.ok
theorem head_b {T : List GT} {L : Lv} (h : LB T L) {i : Nat} (hi : i ≤ T.length) : Bd T (headS T L i) := by
  unfold headS
  split
  · exact Bd.ok
  · exact clauses_b h _ _ _ hi
theorem after_b {T : List GT} {L : Lv} (h : LB T L) (l : List GTree) {i : Nat} (hi : i ≤ T.length) : Bd T (afterS T L l i) := by
  unfold afterS
  split
  · rename_i h'
    have := isAt_lt h'
    exact Bd.bind (h.ex.bd (i + 1) this) (h.ex.on _).w this fun x k hk => Bd.bind (want_b T hk sArrow) (wantS_on T k sArrow).w hk fun _ m hm => Bd.bind (body_b h.ex hm) (bodyS_on h.ex.on m).w hm fun b q hq => Bd.ok
  · exact Bd.ok
theorem recv_b {T : List GT} {L : Lv} (h : LB T L) {i : Nat} (hi : i ≤ T.length) : Bd T (recvS T L i) :=
  Bd.bind (head_b h hi) (headS_on h.on i) hi fun l j hj => Bd.bind (after_b h l hj) (afterS_on h.on l j) hj fun l k hk => Bd.bind (want_b T hk sEnd) (wantS_on T k sEnd).w hk fun _ z hz => Bd.ok
theorem paren_b {T : List GT} {L : Lv} (h : LB T L) {i : Nat} (hi : i ≤ T.length) : Bd T (parenS T L i) :=
  Bd.bind (h.ex.bd i hi) (h.ex.on i).w hi fun x j hj => Bd.bind (want_b T hj sShut) (wantS_on T j sShut).w hj fun _ k hk => Bd.ok
theorem rowS_b {T : List GT} {L : Lv} (h : LB T L) (kd : Int) (s e : ByteArray) {i : Nat} (hi : i ≤ T.length) : Bd T (rowS T kd s e L i) :=
  Bd.bind (list_b h.ex e hi) (listS_on h.ex.on e i).w hi fun l k hk => Bd.ok
def LoB (T : List GT) (lo : Option Lv) : Prop := ∀ L, lo = some L → LB T L
theorem LoB.on {T : List GT} {lo : Option Lv} (h : LoB T lo) : OnO T lo := fun L e => (h L e).on
theorem within_b {T : List GT} {lo : Option Lv} (h : LoB T lo) {i : Nat} (hi : i + 1 ≤ T.length) {f : Lv → Nat → PR GTree} (hf : ∀ L, LB T L → Bd T (f L (i + 1))) : Bd T (withinS lo i f) := by
  unfold withinS
  cases lo with
  | none => exact Bd.bad1 (by omega)
  | some L => exact hf L (h L rfl)
theorem opens_b {T : List GT} {lo : Option Lv} (h : LoB T lo) {i : Nat} (hi : i ≤ T.length) : Bd T (opensS T lo i) := by
  unfold opensS
  split
  · rename_i h'; exact within_b h (isAt_lt h') fun L hL => paren_b hL (isAt_lt h')
  split
  · rename_i h'; exact within_b h (isAt_lt h') fun L hL => rowS_b hL _ _ _ (isAt_lt h')
  split
  · rename_i h'; exact within_b h (isAt_lt h') fun L hL => rowS_b hL _ _ _ (isAt_lt h')
  split
  · rename_i h'; exact within_b h (isAt_lt h') fun L hL => case_b hL (isAt_lt h')
  split
  · rename_i h'; exact within_b h (isAt_lt h') fun L hL => recv_b hL (isAt_lt h')
  · exact Bd.bad0 hi
theorem prim_b {T : List GT} {lo : Option Lv} (h : LoB T lo) : XB T (primS T lo) := ⟨primS_on h.on, fun i hi => by
  unfold primS
  cases ht : T[i]? with
  | none => exact Bd.bad0 hi
  | some t =>
    dsimp only
    split
    · exact Bd.ok
    split
    · exact Bd.ok
    split
    · exact Bd.ok
    split
    · split
      · rename_i h'; exact within_b h (isAt_lt h') fun L hL => rowS_b hL _ _ _ (isAt_lt h')
      · exact Bd.ok
    · exact opens_b h hi⟩
theorem unary_b {T : List GT} {lo : Option Lv} (h : LoB T lo) : XB T (unaryS T lo) := ⟨unaryS_on h.on, fun i hi => by
  unfold unaryS
  split
  · rename_i h'
    exact within_b h (isAt_lt h') fun L hL => Bd.bind (hL.un.bd _ (isAt_lt h')) (hL.un.on _).w (isAt_lt h') fun x k hk => Bd.ok
  · exact (prim_b h).bd i hi⟩
theorem oneS_lt {T : List GT} {i : Nat} {l : List ByteArray} {s : ByteArray} (h : oneS T i l = some s) : i < T.length := by
  unfold oneS at h
  exact isAt_lt (List.find?_some h)
theorem chain_b {T : List GT} {sub : Nat → PR GTree} (h : XB T sub) (signs : List ByteArray) : ∀ f i a, i ≤ T.length → Bd T (chainS T sub signs f i a)
  | 0, i, a, hi => Bd.ok
  | f + 1, i, a, hi => by
    unfold chainS
    split
    · exact Bd.ok
    · rename_i s hs
      have := oneS_lt hs
      exact Bd.bind (h.bd _ this) (h.on _).w this fun b j hj => chain_b h signs f j _ hj
theorem prod_b {T : List GT} {lo : Option Lv} (h : LoB T lo) : XB T (prodS T lo) := ⟨prodS_on h.on, fun i hi => Bd.bind ((unary_b h).bd i hi) ((unary_b h).on i).w hi fun a j hj => chain_b (unary_b h) _ _ j a hj⟩
theorem sum_b {T : List GT} {lo : Option Lv} (h : LoB T lo) : XB T (sumS T lo) := ⟨sumS_on h.on, fun i hi => Bd.bind ((prod_b h).bd i hi) ((prod_b h).on i).w hi fun a j hj => chain_b (prod_b h) _ _ j a hj⟩
theorem cmp_b {T : List GT} {lo : Option Lv} (h : LoB T lo) : XB T (cmpS T lo) := ⟨cmpS_on h.on, fun i hi => Bd.bind ((sum_b h).bd i hi) ((sum_b h).on i).w hi fun a j hj => by
  split
  · exact Bd.ok
  · rename_i s hs
    have := oneS_lt hs
    exact Bd.bind ((sum_b h).bd _ this) ((sum_b h).on _).w this fun b k hk => Bd.ok⟩
theorem join_b {T : List GT} {lo : Option Lv} (h : LoB T lo) (kd : Int) (a : GTree) {j : Nat} (hj : j + 1 ≤ T.length) : Bd T (joinS lo kd a j) :=
  within_b h hj fun L hL => Bd.bind (hL.ex.bd _ hj) (hL.ex.on _).w hj fun b m hm => Bd.ok
theorem expr_b {T : List GT} {lo : Option Lv} (h : LoB T lo) : XB T (exprS T lo) := ⟨exprS_on h.on, fun i hi => Bd.bind ((cmp_b h).bd i hi) ((cmp_b h).on i).w hi fun a j hj => by
  split
  · rename_i h'; exact join_b h 9 a (isAt_lt h')
  split
  · rename_i h'; exact join_b h 10 a (isAt_lt h')
  · exact Bd.ok⟩
theorem lo_b (T : List GT) : ∀ n, LoB T (loS T n)
  | 0 => fun L h => by cases h
  | n + 1 => fun L h => by
    cases h
    exact ⟨expr_b (lo_b T n), unary_b (lo_b T n)⟩
theorem params_b (T : List GT) : ∀ f i acc, i ≤ T.length → Bd T (paramsS T f i acc)
  | 0, i, acc, hi => Bd.ok
  | f + 1, i, acc, hi => by
    unfold paramsS
    split
    · exact Bd.ok
    · refine Bd.bind (i := i) ?_ ?_ hi fun _ j hj => ?_
      · split
        · exact Bd.ok
        · exact want_b T hi sComma
      · split
        · exact OnW.ok ⟨Nat.le_refl _, .inr rfl⟩
        · exact (wantS_on T i sComma).w
      · cases ht : T[j]? with
        | none => exact Bd.bad0 hj
        | some t =>
          dsimp only
          have hl : j < T.length := (List.getElem?_eq_some_iff.1 ht).1
          split
          · exact params_b T f (j + 1) _ hl
          · exact Bd.bad0 hj
theorem fun_b (T : List GT) {i : Nat} (hi : i ≤ T.length) : Bd T (funS T i) := by
  unfold funS
  cases ht : T[i]? with
  | none => exact Bd.bad0 hi
  | some t =>
    have hl : i < T.length := (List.getElem?_eq_some_iff.1 ht).1
    dsimp only
    split
    · exact Bd.bind (want_b T hl sOpen) (wantS_on T (i + 1) sOpen).w hl fun _ j hj => Bd.bind (params_b T _ j [] hj) (paramsS_on T _ j []) hj fun l k hk => Bd.bind (want_b T hk sShut) (wantS_on T k sShut).w hk fun _ m hm => Bd.bind (want_b T hm sArrow) (wantS_on T m sArrow).w hm fun _ q hq => Bd.bind (body_b (expr_b (lo_b T 40)) hq) (bodyS_on (exprS_on (loS_on T 40)) q).w hq fun b r hr => Bd.bind (want_b T hr sDot) (wantS_on T r sDot).w hr fun _ z hz => Bd.ok
    · exact Bd.bad0 hi
theorem funs_b (T : List GT) : ∀ f i acc, i ≤ T.length → Bd T (funsS T f i acc)
  | 0, i, acc, hi => Bd.ok
  | f + 1, i, acc, hi => by
    unfold funsS
    split
    · exact Bd.bind (fun_b T hi) (funS_on T i).w hi fun t j hj => funs_b T f j _ hj
    · exact Bd.ok
theorem OnW_funs (T : List GT) : ∀ f i acc, i ≤ T.length → OnW T i (funsS T f i acc)
  | 0, i, acc, hi => OnW.ok ⟨Nat.le_refl _, .inr rfl⟩
  | f + 1, i, acc, hi => by
    unfold funsS
    split
    · intro x j e
      cases hf : funS T i with
      | bad k c => rw [hf] at e; cases e
      | ok t k =>
        rw [hf] at e
        have h1 := funS_on T i t k hf
        have := OnW_funs T f k _ h1.2 x j e
        omega
    · exact OnW.ok ⟨Nat.le_refl _, .inr rfl⟩
theorem parse_b (T : List GT) : Bd T (parseS T) := Bd.bind (i := 0) (funs_b T _ 0 [] (Nat.zero_le _)) (OnW_funs T _ 0 [] (Nat.zero_le _)) (Nat.zero_le _) fun l j hj => Bd.ok
/-! ### What is parsed before n tokens stays. -/
def Lc {α : Type} (n : Nat) (r r' : PR α) : Prop := ∀ x j, r = .ok x j → j < n → r' = .ok x j
theorem Lc.refl {α : Type} {n : Nat} {r : PR α} : Lc n r r := fun _ _ h _ => h
theorem Lc.bad {α : Type} {n i : Nat} {c : Int} {r' : PR α} : Lc n (.bad i c) r' := fun _ _ h _ => by cases h
theorem Lc.bind {T : List GT} {n : Nat} {α β : Type} {r r' : PR α} {f f' : α → Nat → PR β} (h : Lc n r r') (ho : ∀ y k, OnW T k (f y k)) (hf : ∀ y k, r = .ok y k → Lc n (f y k) (f' y k)) : Lc n (r.bind f) (r'.bind f') := by
  intro x j e hj
  cases r with
  | bad k c => cases e
  | ok y k =>
    have h1 := ho y k x j e
    rw [h y k rfl (by omega)]
    exact hf y k rfl x j e hj
section
variable {A B : List GT}
theorem at_app {i : Nat} (h : i < A.length) : (A ++ B)[i]? = A[i]? := List.getElem?_append_left h
theorem is_app {i : Nat} (h : i < A.length) (s : ByteArray) : isAt (A ++ B) i s = isAt A i s := by unfold isAt; rw [at_app h]
theorem one_app {i : Nat} (h : i < A.length) (l : List ByteArray) : oneS (A ++ B) i l = oneS A i l := by
  unfold oneS
  congr 1
  funext s
  exact is_app h s
theorem want_l (i : Nat) (s : ByteArray) : Lc A.length (wantS A i s) (wantS (A ++ B) i s) := by
  intro x j e hj
  have h1 := wantS_on A i s x j e
  unfold wantS at e ⊢
  rw [is_app (by omega)]
  exact e
structure XL (A B : List GT) (ex ex' : Nat → PR GTree) : Prop where
  on : OnF A ex
  lc : ∀ i, Lc A.length (ex i) (ex' i)
theorem okW {T : List GT} {α : Type} {x : α} {j : Nat} : OnW T j (PR.ok x j) := OnW.ok ⟨Nat.le_refl _, .inr rfl⟩
theorem more_l {ex ex' : Nat → PR GTree} (h : XL A B ex ex') : ∀ f f' i acc, A.length < f + i → A.length < f' + i → Lc A.length (moreS A ex f i acc) (moreS (A ++ B) ex' f' i acc)
  | 0, f', i, acc, hf, hf' => fun x j e hj => by cases e; omega
  | f + 1, 0, i, acc, hf, hf' => fun x j e hj => by
    have := moreS_on h.on (f + 1) i acc x j e
    omega
  | f + 1, f' + 1, i, acc, hf, hf' => fun x j e hj => by
    have h1 := moreS_on h.on (f + 1) i acc x j e
    unfold moreS at e ⊢
    rw [is_app (by omega)]
    split
    · rename_i hi
      rw [if_pos hi] at e
      exact Lc.bind (T := A) (h.lc (i + 1)) (fun t k => moreS_on h.on f k _) (fun t k hk => by
        have := h.on (i + 1) t k hk
        exact more_l h f f' k _ (by omega) (by omega)) x j e hj
    · rename_i hi
      rw [if_neg hi] at e
      exact e
theorem body_l {ex ex' : Nat → PR GTree} (h : XL A B ex ex') (i : Nat) : Lc A.length (bodyS A ex i) (bodyS (A ++ B) ex' i) :=
  Lc.bind (T := A) (h.lc i) (fun t j => OnW.bind (moreS_on h.on _ j _) fun l k _ => okW) fun t j _ => Lc.bind (T := A) (more_l h _ _ j _ (by omega) (by simp; omega)) (fun l k => okW) fun l k _ => Lc.refl
theorem list_l {ex ex' : Nat → PR GTree} (h : XL A B ex ex') (e : ByteArray) (i : Nat) : Lc A.length (listS A ex e i) (listS (A ++ B) ex' e i) := fun x j q hj => by
  have h1 := listS_on h.on e i x j q
  unfold listS at q ⊢
  rw [is_app (by omega)]
  split
  · rename_i hi
    rw [if_pos hi] at q
    exact q
  · rename_i hi
    rw [if_neg hi] at q
    exact Lc.bind (T := A) (h.lc i) (fun t j => OnW.bind (moreS_on h.on _ j _) fun l k _ => OnW.bind (wantS_on A k e).w fun _ m _ => okW) (fun t j _ => Lc.bind (T := A) (more_l h _ _ j _ (by omega) (by simp; omega)) (fun l k => OnW.bind (wantS_on A k e).w fun _ m _ => okW) fun l k _ => Lc.bind (T := A) (want_l k e) (fun _ m => okW) fun _ m _ => Lc.refl) x j q hj
structure VL (A B : List GT) (L L' : Lv) : Prop where
  ex : XL A B L.ex L'.ex
  un : XL A B L.un L'.un
theorem VL.on {L L' : Lv} (h : VL A B L L') : OnL A L := ⟨h.ex.on, h.un.on⟩
theorem clauses_l {L L' : Lv} (h : VL A B L L') : ∀ f f' i acc, A.length < f + i → A.length < f' + i → Lc A.length (clausesS A L f i acc) (clausesS (A ++ B) L' f' i acc)
  | 0, f', i, acc, hf, hf' => fun x j e hj => by cases e; omega
  | f + 1, 0, i, acc, hf, hf' => fun x j e hj => by
    have := clausesS_on h.on (f + 1) i acc x j e
    omega
  | f + 1, f' + 1, i, acc, hf, hf' => by
    unfold clausesS
    have W : ∀ (y : GTree) (m : Nat), OnW A m (if isAt A m sSemi then clausesS A L f (m + 1) (acc ++ [y]) else PR.ok (acc ++ [y]) m) := fun y m => by
      split
      · rename_i hi
        intro z q hq
        have := clausesS_on h.on f (m + 1) _ z q hq
        have := isAt_lt hi
        omega
      · exact okW
    refine Lc.bind (T := A) (h.un.lc i) (fun x j => OnW.bind (wantS_on A j sArrow).w fun _ k _ => OnW.bind (bodyS_on h.ex.on k).w fun b m _ => W _ m) fun x j hj => Lc.bind (T := A) (want_l j sArrow) (fun _ k => OnW.bind (bodyS_on h.ex.on k).w fun b m _ => W _ m) fun _ k hk => Lc.bind (T := A) (body_l h.ex k) (fun b m => W _ m) fun b m hm => ?_
    have h1 := h.un.on i x j hj
    have h2 := wantS_on A j sArrow _ k hk
    have h3 := bodyS_on h.ex.on k b m hm
    intro z q hq hlt
    have h4 := W (.node 15 gE 0 [] [x, b]) m z q hq
    rw [is_app (by omega)]
    split
    · rename_i hi
      rw [if_pos hi] at hq
      exact clauses_l h f f' (m + 1) _ (by omega) (by omega) z q hq hlt
    · rename_i hi
      rw [if_neg hi] at hq
      exact hq
theorem case_l {L L' : Lv} (h : VL A B L L') (i : Nat) : Lc A.length (caseS A L i) (caseS (A ++ B) L' i) :=
  Lc.bind (T := A) (h.ex.lc i) (fun t j => OnW.bind (wantS_on A j sOf).w fun _ k _ => OnW.bind (clausesS_on h.on _ k _) fun l m _ => OnW.bind (wantS_on A m sEnd).w fun _ q _ => okW) fun t j _ =>
  Lc.bind (T := A) (want_l j sOf) (fun _ k => OnW.bind (clausesS_on h.on _ k _) fun l m _ => OnW.bind (wantS_on A m sEnd).w fun _ q _ => okW) fun _ k _ =>
  Lc.bind (T := A) (clauses_l h _ _ k _ (by omega) (by simp; omega)) (fun l m => OnW.bind (wantS_on A m sEnd).w fun _ q _ => okW) fun l m _ =>
  Lc.bind (T := A) (want_l m sEnd) (fun _ q => okW) fun _ q _ => Lc.refl
theorem head_l {L L' : Lv} (h : VL A B L L') (i : Nat) (hi : i < A.length) : Lc A.length (headS A L i) (headS (A ++ B) L' i) := by
  unfold headS
  rw [is_app hi]
  split
  · exact Lc.refl
  · exact clauses_l h _ _ i _ (by omega) (by simp; omega)
theorem after_l {L L' : Lv} (h : VL A B L L') (l : List GTree) (i : Nat) : Lc A.length (afterS A L l i) (afterS (A ++ B) L' l i) := fun x j q hj => by
  have h1 := afterS_on h.on l i x j q
  unfold afterS at q ⊢
  rw [is_app (by omega)]
  split
  · rename_i hi
    rw [if_pos hi] at q
    exact Lc.bind (T := A) (h.ex.lc (i + 1)) (fun t j => OnW.bind (wantS_on A j sArrow).w fun _ k _ => OnW.bind (bodyS_on h.ex.on k).w fun b m _ => okW) (fun t j _ => Lc.bind (T := A) (want_l j sArrow) (fun _ k => OnW.bind (bodyS_on h.ex.on k).w fun b m _ => okW) fun _ k _ => Lc.bind (T := A) (body_l h.ex k) (fun b m => okW) fun b m _ => Lc.refl) x j q hj
  · rename_i hi
    rw [if_neg hi] at q
    exact q
theorem recv_l {L L' : Lv} (h : VL A B L L') (i : Nat) : Lc A.length (recvS A L i) (recvS (A ++ B) L' i) := fun x j q hj => by
  have h1 := recvS_on h.on i x j q
  exact Lc.bind (T := A) (head_l h i (by omega)) (fun l j => OnW.bind (afterS_on h.on l j) fun l k _ => OnW.bind (wantS_on A k sEnd).w fun _ z _ => okW) (fun l j _ => Lc.bind (T := A) (after_l h l j) (fun l k => OnW.bind (wantS_on A k sEnd).w fun _ z _ => okW) fun l k _ => Lc.bind (T := A) (want_l k sEnd) (fun _ z => okW) fun _ z _ => Lc.refl) x j q hj
theorem paren_l {L L' : Lv} (h : VL A B L L') (i : Nat) : Lc A.length (parenS A L i) (parenS (A ++ B) L' i) :=
  Lc.bind (T := A) (h.ex.lc i) (fun x j => OnW.bind (wantS_on A j sShut).w fun _ k _ => okW) fun x j _ => Lc.bind (T := A) (want_l j sShut) (fun _ k => okW) fun _ k _ => Lc.refl
theorem rowS_l {L L' : Lv} (h : VL A B L L') (kd : Int) (s e : ByteArray) (i : Nat) : Lc A.length (rowS A kd s e L i) (rowS (A ++ B) kd s e L' i) :=
  Lc.bind (T := A) (list_l h.ex e i) (fun l k => okW) fun l k _ => Lc.refl
/-- The levels below, the same of both. -/
inductive OL (A B : List GT) : Option Lv → Option Lv → Prop where
  | none : OL A B none none
  | some {L L' : Lv} (h : VL A B L L') : OL A B (some L) (some L')
theorem OL.on {lo lo' : Option Lv} (h : OL A B lo lo') : OnO A lo := fun L e => by
  cases h with
  | none => cases e
  | some h => cases e; exact h.on
theorem within_l {lo lo' : Option Lv} (h : OL A B lo lo') (i : Nat) {f f' : Lv → Nat → PR GTree} (hf : ∀ L L', VL A B L L' → Lc A.length (f L (i + 1)) (f' L' (i + 1))) : Lc A.length (withinS lo i f) (withinS lo' i f') := by
  cases h with
  | none => exact Lc.bad
  | some h => exact hf _ _ h
theorem opens_l {lo lo' : Option Lv} (h : OL A B lo lo') (i : Nat) (hi : i < A.length) : Lc A.length (opensS A lo i) (opensS (A ++ B) lo' i) := by
  unfold opensS
  simp only [is_app hi]
  split
  · exact within_l h i fun L L' hL => paren_l hL _
  split
  · exact within_l h i fun L L' hL => rowS_l hL _ _ _ _
  split
  · exact within_l h i fun L L' hL => rowS_l hL _ _ _ _
  split
  · exact within_l h i fun L L' hL => case_l hL _
  split
  · exact within_l h i fun L L' hL => recv_l hL _
  · exact Lc.bad
theorem prim_l {lo lo' : Option Lv} (h : OL A B lo lo') : XL A B (primS A lo) (primS (A ++ B) lo') := ⟨primS_on h.on, fun i x j q hj => by
  have h1 := primS_on h.on i x j q
  have hi : i < A.length := by omega
  unfold primS at q ⊢
  rw [at_app hi]
  cases ht : A[i]? with
  | none => rw [ht] at q; cases q
  | some t =>
    rw [ht] at q
    dsimp only at q ⊢
    by_cases c1 : t.kd = 1
    · rw [if_pos c1] at q ⊢; exact q
    rw [if_neg c1] at q ⊢
    by_cases c2 : t.kd = 3
    · rw [if_pos c2] at q ⊢; exact q
    rw [if_neg c2] at q ⊢
    by_cases c3 : t.kd = 4
    · rw [if_pos c3] at q ⊢; exact q
    rw [if_neg c3] at q ⊢
    by_cases c4 : t.kd = 2
    · rw [if_pos c4] at q ⊢
      by_cases c5 : isAt A (i + 1) sOpen = true
      · rw [is_app (isAt_lt c5)]
        rw [if_pos c5] at q ⊢
        exact within_l h (i + 1) (fun L L' hL => rowS_l hL _ _ _ _) x j q hj
      · rw [if_neg c5] at q
        obtain ⟨rfl, rfl⟩ : GTree.node 2 t.s 0 [] [] = x ∧ i + 1 = j := by simpa using q
        rw [is_app hj, if_neg c5]
    · rw [if_neg c4] at q ⊢
      exact opens_l h i hi x j q hj⟩
theorem unary_l {lo lo' : Option Lv} (h : OL A B lo lo') : XL A B (unaryS A lo) (unaryS (A ++ B) lo') := ⟨unaryS_on h.on, fun i x j q hj => by
  have h1 := unaryS_on h.on i x j q
  unfold unaryS at q ⊢
  rw [is_app (by omega)]
  by_cases c : isAt A i sMinus = true
  · rw [if_pos c] at q ⊢
    exact within_l h i (fun L L' hL => Lc.bind (T := A) (hL.un.lc (i + 1)) (fun x k => okW) fun x k _ => Lc.refl) x j q hj
  · rw [if_neg c] at q ⊢
    exact (prim_l h).lc i x j q hj⟩
theorem chain_l {sub sub' : Nat → PR GTree} (h : XL A B sub sub') (signs : List ByteArray) : ∀ f f' i a, A.length < f + i → A.length < f' + i → Lc A.length (chainS A sub signs f i a) (chainS (A ++ B) sub' signs f' i a)
  | 0, f', i, a, hf, hf' => fun x j e hj => by cases e; omega
  | f + 1, 0, i, a, hf, hf' => fun x j e hj => by
    have := chainS_on h.on signs (f + 1) i a x j e
    omega
  | f + 1, f' + 1, i, a, hf, hf' => fun x j e hj => by
    have h1 := chainS_on h.on signs (f + 1) i a x j e
    unfold chainS at e ⊢
    rw [one_app (by omega)]
    cases hs : oneS A i signs with
    | none => rw [hs] at e; exact e
    | some s =>
      rw [hs] at e
      exact Lc.bind (T := A) (h.lc (i + 1)) (fun b j => chainS_on h.on signs f j _) (fun b j hb => by
        have := h.on (i + 1) b j hb
        exact chain_l h signs f f' j _ (by omega) (by omega)) x j e hj
theorem prod_l {lo lo' : Option Lv} (h : OL A B lo lo') : XL A B (prodS A lo) (prodS (A ++ B) lo') := ⟨prodS_on h.on, fun i =>
  Lc.bind (T := A) ((unary_l h).lc i) (fun a j => chainS_on (unary_l h).on _ _ j a) fun a j _ => chain_l (unary_l h) _ _ _ j a (by omega) (by simp; omega)⟩
theorem sum_l {lo lo' : Option Lv} (h : OL A B lo lo') : XL A B (sumS A lo) (sumS (A ++ B) lo') := ⟨sumS_on h.on, fun i =>
  Lc.bind (T := A) ((prod_l h).lc i) (fun a j => chainS_on (prod_l h).on _ _ j a) fun a j _ => chain_l (prod_l h) _ _ _ j a (by omega) (by simp; omega)⟩
theorem cmp_w {lo : Option Lv} (h : OnO A lo) (a : GTree) (j : Nat) : OnW A j (match oneS A j sComps with
  | none => PR.ok a j
  | some s => (sumS A lo (j + 1)).bind fun b k => .ok (.node 8 s 0 [] [a, b]) k) := by
  split
  · exact okW
  · intro y k hk
    have := (On.bind (sumS_on h (j + 1)) (fun b k _ _ => okW (T := A) (x := GTree.node 8 _ 0 [] [a, b]) (j := k))) y k hk
    omega
theorem cmp_l {lo lo' : Option Lv} (h : OL A B lo lo') : XL A B (cmpS A lo) (cmpS (A ++ B) lo') := ⟨cmpS_on h.on, fun i =>
  Lc.bind (T := A) ((sum_l h).lc i) (fun a j => cmp_w h.on a j) fun a j _ x k q hk => by
    have h1 := cmp_w h.on a j x k q
    rw [one_app (by omega)]
    cases hs : oneS A j sComps with
    | none => rw [hs] at q; exact q
    | some s =>
      rw [hs] at q
      exact Lc.bind (T := A) ((sum_l h).lc (j + 1)) (fun b k => okW) (fun b k _ => Lc.refl) x k q hk⟩
theorem join_l {lo lo' : Option Lv} (h : OL A B lo lo') (kd : Int) (a : GTree) (j : Nat) : Lc A.length (joinS lo kd a j) (joinS lo' kd a j) :=
  within_l h j fun L L' hL => Lc.bind (T := A) (hL.ex.lc (j + 1)) (fun b m => okW) fun b m _ => Lc.refl
theorem expr_w {lo : Option Lv} (h : OnO A lo) (a : GTree) (j : Nat) : OnW A j (if isAt A j sEq then joinS lo 9 a j else if isAt A j sBang then joinS lo 10 a j else .ok a j) := by
  split
  · exact (joinS_on h 9 a j).w
  split
  · exact (joinS_on h 10 a j).w
  · exact okW
theorem expr_l {lo lo' : Option Lv} (h : OL A B lo lo') : XL A B (exprS A lo) (exprS (A ++ B) lo') := ⟨exprS_on h.on, fun i =>
  Lc.bind (T := A) ((cmp_l h).lc i) (fun a j => expr_w h.on a j) fun a j _ x k q hk => by
    have h1 := expr_w h.on a j x k q
    rw [is_app (by omega), is_app (by omega)]
    by_cases c1 : isAt A j sEq = true
    · rw [if_pos c1] at q ⊢
      exact join_l h 9 a j x k q hk
    rw [if_neg c1] at q ⊢
    by_cases c2 : isAt A j sBang = true
    · rw [if_pos c2] at q ⊢
      exact join_l h 10 a j x k q hk
    · rw [if_neg c2] at q ⊢
      exact q⟩
theorem lo_l : ∀ n, OL A B (loS A n) (loS (A ++ B) n)
  | 0 => .none
  | n + 1 => .some ⟨expr_l (lo_l n), unary_l (lo_l n)⟩
theorem params_l : ∀ f f' i acc, A.length < f + i → A.length < f' + i → Lc A.length (paramsS A f i acc) (paramsS (A ++ B) f' i acc)
  | 0, f', i, acc, hf, hf' => fun x j e hj => by cases e; omega
  | f + 1, 0, i, acc, hf, hf' => fun x j e hj => by
    have := paramsS_on A (f + 1) i acc x j e
    omega
  | f + 1, f' + 1, i, acc, hf, hf' => fun x j e hj => by
    have h1 := paramsS_on A (f + 1) i acc x j e
    unfold paramsS at e ⊢
    rw [is_app (by omega)]
    by_cases c : isAt A i sShut = true
    · rw [if_pos c] at e ⊢
      exact e
    rw [if_neg c] at e ⊢
    have W : ∀ j : Nat, OnW A j (match A[j]? with
      | none => PR.bad j 160
      | some t => if t.kd = 3 then paramsS A f (j + 1) (acc ++ [.node 3 t.s 0 [] []]) else .bad j 160) := fun j => by
      cases ht : A[j]? with
      | none => exact OnW.bad
      | some t =>
        have hl : j < A.length := (List.getElem?_eq_some_iff.1 ht).1
        dsimp only
        split
        · intro y k hk
          have := paramsS_on A f (j + 1) _ y k hk
          omega
        · exact OnW.bad
    refine Lc.bind (T := A) ?_ (fun _ j => W j) (fun _ j hj' => ?_) x j e hj
    · split
      · exact Lc.refl
      · exact want_l i sComma
    · have h2 : i ≤ j := by
        split at hj'
        · cases hj'; exact Nat.le_refl _
        · have := wantS_on A i sComma _ j hj'
          omega
      intro y k hk hlt
      have h3 := W j y k hk
      rw [at_app (by omega)]
      cases ht : A[j]? with
      | none => rw [ht] at hk; cases hk
      | some t =>
        rw [ht] at hk
        dsimp only at hk ⊢
        by_cases c3 : t.kd = 3
        · rw [if_pos c3] at hk ⊢
          exact params_l f f' (j + 1) _ (by omega) (by omega) y k hk hlt
        · rw [if_neg c3] at hk
          cases hk
theorem fun_l (i : Nat) (hi : i < A.length) {t : GTree} {j : Nat} (h : funS A i = .ok t j) : funS (A ++ B) i = .ok t j := by
  unfold funS at h ⊢
  rw [at_app hi]
  cases ht : A[i]? with
  | none => rw [ht] at h; cases h
  | some u =>
    rw [ht] at h
    dsimp only at h ⊢
    by_cases c : u.kd = 2
    · rw [if_pos c] at h ⊢
      -- its end is the dot: what stands ahead of it stands before the end
      have key : Lc A.length ((wantS A (i + 1) sOpen).bind fun _ j => (paramsS A (A.length + 1) j []).bind fun l k => (wantS A k sShut).bind fun _ m => (wantS A m sArrow).bind fun _ q => (bodyS A (exprS A (loS A 40)) q).bind fun b r => .ok (l, b) r)
          ((wantS (A ++ B) (i + 1) sOpen).bind fun _ j => (paramsS (A ++ B) ((A ++ B).length + 1) j []).bind fun l k => (wantS (A ++ B) k sShut).bind fun _ m => (wantS (A ++ B) m sArrow).bind fun _ q => (bodyS (A ++ B) (exprS (A ++ B) (loS (A ++ B) 40)) q).bind fun b r => .ok (l, b) r) :=
        Lc.bind (T := A) (want_l _ _) (fun _ j => OnW.bind (paramsS_on A _ j _) fun l k _ => OnW.bind (wantS_on A k sShut).w fun _ m _ => OnW.bind (wantS_on A m sArrow).w fun _ q _ => OnW.bind (bodyS_on (exprS_on (loS_on A 40)) q).w fun b r _ => okW) fun _ j _ =>
        Lc.bind (T := A) (params_l _ _ j _ (by omega) (by simp; omega)) (fun l k => OnW.bind (wantS_on A k sShut).w fun _ m _ => OnW.bind (wantS_on A m sArrow).w fun _ q _ => OnW.bind (bodyS_on (exprS_on (loS_on A 40)) q).w fun b r _ => okW) fun l k _ =>
        Lc.bind (T := A) (want_l k sShut) (fun _ m => OnW.bind (wantS_on A m sArrow).w fun _ q _ => OnW.bind (bodyS_on (exprS_on (loS_on A 40)) q).w fun b r _ => okW) fun _ m _ =>
        Lc.bind (T := A) (want_l m sArrow) (fun _ q => OnW.bind (bodyS_on (exprS_on (loS_on A 40)) q).w fun b r _ => okW) fun _ q _ =>
        Lc.bind (T := A) (body_l (expr_l (lo_l 40)) q) (fun b r => okW) fun b r _ => Lc.refl
      have re : ∀ T : List GT, ((wantS T (i + 1) sOpen).bind fun _ j => (paramsS T (T.length + 1) j []).bind fun l k => (wantS T k sShut).bind fun _ m => (wantS T m sArrow).bind fun _ q => (bodyS T (exprS T (loS T 40)) q).bind fun b r => (wantS T r sDot).bind fun _ z => PR.ok (GTree.node 17 u.s 0 [] (l ++ [b])) z)
          = ((wantS T (i + 1) sOpen).bind fun _ j => (paramsS T (T.length + 1) j []).bind fun l k => (wantS T k sShut).bind fun _ m => (wantS T m sArrow).bind fun _ q => (bodyS T (exprS T (loS T 40)) q).bind fun b r => PR.ok (l, b) r).bind fun p r => (wantS T r sDot).bind fun _ z => .ok (.node 17 u.s 0 [] (p.1 ++ [p.2])) z := by
        intro T
        cases wantS T (i + 1) sOpen with
        | bad => rfl
        | ok _ j =>
          dsimp only [PR.bind]
          cases paramsS T (T.length + 1) j [] with
          | bad => rfl
          | ok l k =>
            dsimp only [PR.bind]
            cases wantS T k sShut with
            | bad => rfl
            | ok _ m =>
              dsimp only [PR.bind]
              cases wantS T m sArrow with
              | bad => rfl
              | ok _ q =>
                dsimp only [PR.bind]
                cases bodyS T (exprS T (loS T 40)) q with
                | bad => rfl
                | ok b r => rfl
      rw [re] at h ⊢
      revert h
      generalize hg : ((wantS A (i + 1) sOpen).bind fun _ j => (paramsS A (A.length + 1) j []).bind fun l k => (wantS A k sShut).bind fun _ m => (wantS A m sArrow).bind fun _ q => (bodyS A (exprS A (loS A 40)) q).bind fun b r => PR.ok (l, b) r) = R at key
      intro h
      cases R with
      | bad k c => cases h
      | ok p r =>
        have hd : isAt A r sDot = true := by
          by_cases hd : isAt A r sDot = true
          · exact hd
          · dsimp only [PR.bind, wantS] at h
            rw [if_neg hd] at h
            cases h
        rw [key p r rfl (isAt_lt hd)]
        dsimp only [PR.bind, wantS] at h ⊢
        rw [is_app (isAt_lt hd)]
        exact h
    · rw [if_neg c] at h
      cases h
end
theorem funs_pre (T : List GT) : ∀ f i acc l j, funsS T f i acc = .ok l j → ∃ q, l = acc ++ q
  | 0, i, acc, l, j, h => by cases h; exact ⟨[], by simp⟩
  | f + 1, i, acc, l, j, h => by
    unfold funsS at h
    split at h
    · cases hr : funS T i with
      | bad k c => rw [hr] at h; cases h
      | ok t k =>
        rw [hr] at h
        obtain ⟨q, rfl⟩ := funs_pre T f k _ l j h
        exact ⟨t :: q, by simp⟩
    · cases h; exact ⟨[], by simp⟩
theorem funs_end (T : List GT) : ∀ f i acc, T.length < f + i → i ≤ T.length → ∀ l j, funsS T f i acc = .ok l j → j = T.length
  | 0, i, acc, hf, hi => by omega
  | f + 1, i, acc, hf, hi => by
    intro l j h
    unfold funsS at h
    split at h
    · cases hr : funS T i with
      | bad k c => rw [hr] at h; cases h
      | ok t k =>
        rw [hr] at h
        have := funS_on T i t k hr
        exact funs_end T f k _ (by omega) (by omega) l j h
    · cases h; omega
/-! ### What is parsed of tokens behind others is shifted. -/
def shR {α : Type} (d : Nat) : PR α → PR α
  | .ok x j => .ok x (d + j)
  | .bad i c => .bad (d + i) c
theorem shR_bind {α β : Type} {d : Nat} {r : PR α} {f f' : α → Nat → PR β} {r' : PR α} (h : r' = shR d r) (hf : ∀ x j, r = .ok x j → f' x (d + j) = shR d (f x j)) : r'.bind f' = shR d (r.bind f) := by
  subst h
  cases r with
  | bad i c => rfl
  | ok x j => exact hf x j rfl
section
variable {A B : List GT}
theorem at_sh (i : Nat) : (A ++ B)[A.length + i]? = B[i]? := by
  rw [List.getElem?_append_right (by omega)]
  congr 1
  omega
theorem is_sh (i : Nat) (s : ByteArray) : isAt (A ++ B) (A.length + i) s = isAt B i s := by unfold isAt; rw [at_sh]
theorem one_sh (i : Nat) (l : List ByteArray) : oneS (A ++ B) (A.length + i) l = oneS B i l := by
  unfold oneS
  congr 1
  funext s
  exact is_sh i s
theorem want_s (i : Nat) (s : ByteArray) : wantS (A ++ B) (A.length + i) s = shR A.length (wantS B i s) := by
  unfold wantS
  rw [is_sh]
  split <;> rfl
structure XS (A B : List GT) (ex ex' : Nat → PR GTree) : Prop where
  on : OnF B ex
  sh : ∀ i, i ≤ B.length → ex' (A.length + i) = shR A.length (ex i)
theorem more_s {ex ex' : Nat → PR GTree} (h : XS A B ex ex') : ∀ f f' i acc, i ≤ B.length → B.length < f + i → B.length < f' + i → moreS (A ++ B) ex' f' (A.length + i) acc = shR A.length (moreS B ex f i acc)
  | 0, f', i, acc, hi, hf, hf' => by omega
  | f + 1, 0, i, acc, hi, hf, hf' => by omega
  | f + 1, f' + 1, i, acc, hi, hf, hf' => by
    unfold moreS
    rw [is_sh]
    split
    · rename_i hc
      have hl := isAt_lt hc
      refine shR_bind (h.sh (i + 1) hl) fun t j hj => ?_
      have := h.on (i + 1) t j hj
      exact more_s h f f' j _ (by omega) (by omega) (by omega)
    · rfl
theorem body_s {ex ex' : Nat → PR GTree} (h : XS A B ex ex') (i : Nat) (hi : i ≤ B.length) : bodyS (A ++ B) ex' (A.length + i) = shR A.length (bodyS B ex i) :=
  shR_bind (h.sh i hi) fun t j hj => shR_bind (more_s h _ _ j _ (h.on i t j hj).2 (by omega) (by simp; omega)) fun l k hk => rfl
theorem moreW {T : List GT} {ex : Nat → PR GTree} (h : OnF T ex) {f j : Nat} {acc l : List GTree} {k : Nat} (e : moreS T ex f j acc = .ok l k) (hj : j ≤ T.length) : k ≤ T.length := by
  have := moreS_on h f j acc l k e
  omega
theorem list_s {ex ex' : Nat → PR GTree} (h : XS A B ex ex') (e : ByteArray) (i : Nat) (hi : i ≤ B.length) : listS (A ++ B) ex' e (A.length + i) = shR A.length (listS B ex e i) := by
  unfold listS
  rw [is_sh]
  split
  · rfl
  · exact shR_bind (h.sh i hi) fun t j hj => shR_bind (more_s h _ _ j _ (h.on i t j hj).2 (by omega) (by simp; omega)) fun l k hk => shR_bind (want_s k e) fun _ m hm => rfl
structure VS (A B : List GT) (L L' : Lv) : Prop where
  ex : XS A B L.ex L'.ex
  un : XS A B L.un L'.un
theorem VS.on {L L' : Lv} (h : VS A B L L') : OnL B L := ⟨h.ex.on, h.un.on⟩
theorem clauses_s {L L' : Lv} (h : VS A B L L') : ∀ f f' i acc, i ≤ B.length → B.length < f + i → B.length < f' + i → clausesS (A ++ B) L' f' (A.length + i) acc = shR A.length (clausesS B L f i acc)
  | 0, f', i, acc, hi, hf, hf' => by omega
  | f + 1, 0, i, acc, hi, hf, hf' => by omega
  | f + 1, f' + 1, i, acc, hi, hf, hf' => by
    unfold clausesS
    refine shR_bind (h.un.sh i hi) fun x j hj => shR_bind (want_s j sArrow) fun _ k hk => shR_bind (body_s h.ex k (wantS_on B j sArrow _ k hk).2) fun b m hm => ?_
    have h1 := h.un.on i x j hj
    have h2 := wantS_on B j sArrow _ k hk
    have h3 := bodyS_on h.ex.on k b m hm
    rw [is_sh]
    split
    · rename_i hc
      exact clauses_s h f f' (m + 1) _ (isAt_lt hc) (by omega) (by omega)
    · rfl
theorem case_s {L L' : Lv} (h : VS A B L L') (i : Nat) (hi : i ≤ B.length) : caseS (A ++ B) L' (A.length + i) = shR A.length (caseS B L i) :=
  shR_bind (h.ex.sh i hi) fun t j hj => shR_bind (want_s j sOf) fun _ k hk => shR_bind (clauses_s h _ _ k _ (wantS_on B j sOf _ k hk).2 (by omega) (by simp; omega)) fun l m hm => shR_bind (want_s m sEnd) fun _ q hq => rfl
theorem head_s {L L' : Lv} (h : VS A B L L') (i : Nat) (hi : i ≤ B.length) : headS (A ++ B) L' (A.length + i) = shR A.length (headS B L i) := by
  unfold headS
  rw [is_sh]
  split
  · rfl
  · exact clauses_s h _ _ i _ hi (by omega) (by simp; omega)
theorem after_s {L L' : Lv} (h : VS A B L L') (l : List GTree) (i : Nat) (hi : i ≤ B.length) : afterS (A ++ B) L' l (A.length + i) = shR A.length (afterS B L l i) := by
  unfold afterS
  rw [is_sh]
  split
  · rename_i hc
    exact shR_bind (h.ex.sh (i + 1) (isAt_lt hc)) fun t j hj => shR_bind (want_s j sArrow) fun _ k hk => shR_bind (body_s h.ex k (wantS_on B j sArrow _ k hk).2) fun b m hm => rfl
  · rfl
theorem recv_s {L L' : Lv} (h : VS A B L L') (i : Nat) (hi : i ≤ B.length) : recvS (A ++ B) L' (A.length + i) = shR A.length (recvS B L i) :=
  shR_bind (head_s h i hi) fun l j hj => shR_bind (after_s h l j (by have := headS_on h.on i l j hj; omega)) fun l k hk => shR_bind (want_s k sEnd) fun _ z hz => rfl
theorem paren_s {L L' : Lv} (h : VS A B L L') (i : Nat) (hi : i ≤ B.length) : parenS (A ++ B) L' (A.length + i) = shR A.length (parenS B L i) :=
  shR_bind (h.ex.sh i hi) fun x j hj => shR_bind (want_s j sShut) fun _ k hk => rfl
theorem rowS_s {L L' : Lv} (h : VS A B L L') (kd : Int) (s e : ByteArray) (i : Nat) (hi : i ≤ B.length) : rowS (A ++ B) kd s e L' (A.length + i) = shR A.length (rowS B kd s e L i) :=
  shR_bind (list_s h.ex e i hi) fun l k hk => rfl
inductive OS (A B : List GT) : Option Lv → Option Lv → Prop where
  | none : OS A B none none
  | some {L L' : Lv} (h : VS A B L L') : OS A B (some L) (some L')
theorem OS.on {lo lo' : Option Lv} (h : OS A B lo lo') : OnO B lo := fun L e => by
  cases h with
  | none => cases e
  | some h => cases e; exact h.on
theorem within_s {lo lo' : Option Lv} (h : OS A B lo lo') (i : Nat) {f f' : Lv → Nat → PR GTree} (hf : ∀ L L', VS A B L L' → f' L' (A.length + (i + 1)) = shR A.length (f L (i + 1))) : withinS lo' (A.length + i) f' = shR A.length (withinS lo i f) := by
  cases h with
  | none => rfl
  | some h => exact hf _ _ h
theorem opens_s {lo lo' : Option Lv} (h : OS A B lo lo') (i : Nat) : opensS (A ++ B) lo' (A.length + i) = shR A.length (opensS B lo i) := by
  unfold opensS
  simp only [is_sh]
  split
  · rename_i hc; exact within_s h i fun L L' hL => paren_s hL _ (isAt_lt hc)
  split
  · rename_i hc; exact within_s h i fun L L' hL => rowS_s hL _ _ _ _ (isAt_lt hc)
  split
  · rename_i hc; exact within_s h i fun L L' hL => rowS_s hL _ _ _ _ (isAt_lt hc)
  split
  · rename_i hc; exact within_s h i fun L L' hL => case_s hL _ (isAt_lt hc)
  split
  · rename_i hc; exact within_s h i fun L L' hL => recv_s hL _ (isAt_lt hc)
  · rfl
theorem prim_s {lo lo' : Option Lv} (h : OS A B lo lo') : XS A B (primS B lo) (primS (A ++ B) lo') := ⟨primS_on h.on, fun i hi => by
  unfold primS
  rw [at_sh]
  cases ht : B[i]? with
  | none => rfl
  | some t =>
    dsimp only
    split
    · rfl
    split
    · rfl
    split
    · rfl
    split
    · rw [show A.length + i + 1 = A.length + (i + 1) by omega, is_sh]
      split
      · rename_i hc; exact within_s h (i + 1) fun L L' hL => rowS_s hL _ _ _ _ (isAt_lt hc)
      · rfl
    · exact opens_s h i⟩
theorem unary_s {lo lo' : Option Lv} (h : OS A B lo lo') : XS A B (unaryS B lo) (unaryS (A ++ B) lo') := ⟨unaryS_on h.on, fun i hi => by
  unfold unaryS
  rw [is_sh]
  split
  · rename_i hc; exact within_s h i fun L L' hL => shR_bind (hL.un.sh (i + 1) (isAt_lt hc)) fun x k hk => rfl
  · exact (prim_s h).sh i hi⟩
theorem one_lt {T : List GT} {i : Nat} {l : List ByteArray} {s : ByteArray} (h : oneS T i l = some s) : i < T.length := by
  unfold oneS at h
  exact isAt_lt (List.find?_some h)
theorem chain_s {sub sub' : Nat → PR GTree} (h : XS A B sub sub') (signs : List ByteArray) : ∀ f f' i a, i ≤ B.length → B.length < f + i → B.length < f' + i → chainS (A ++ B) sub' signs f' (A.length + i) a = shR A.length (chainS B sub signs f i a)
  | 0, f', i, a, hi, hf, hf' => by omega
  | f + 1, 0, i, a, hi, hf, hf' => by omega
  | f + 1, f' + 1, i, a, hi, hf, hf' => by
    unfold chainS
    rw [one_sh]
    cases hs : oneS B i signs with
    | none => rfl
    | some s =>
      refine shR_bind (h.sh (i + 1) (one_lt hs)) fun b j hb => ?_
      have := h.on (i + 1) b j hb
      exact chain_s h signs f f' j _ (by omega) (by omega) (by omega)
theorem prod_s {lo lo' : Option Lv} (h : OS A B lo lo') : XS A B (prodS B lo) (prodS (A ++ B) lo') := ⟨prodS_on h.on, fun i hi =>
  shR_bind ((unary_s h).sh i hi) fun a j hj => chain_s (unary_s h) _ _ _ j a ((unary_s h).on i a j hj).2 (by omega) (by simp; omega)⟩
theorem sum_s {lo lo' : Option Lv} (h : OS A B lo lo') : XS A B (sumS B lo) (sumS (A ++ B) lo') := ⟨sumS_on h.on, fun i hi =>
  shR_bind ((prod_s h).sh i hi) fun a j hj => chain_s (prod_s h) _ _ _ j a ((prod_s h).on i a j hj).2 (by omega) (by simp; omega)⟩
theorem cmp_s {lo lo' : Option Lv} (h : OS A B lo lo') : XS A B (cmpS B lo) (cmpS (A ++ B) lo') := ⟨cmpS_on h.on, fun i hi =>
  shR_bind ((sum_s h).sh i hi) fun a j hj => by
    rw [one_sh]
    cases hs : oneS B j sComps with
    | none => rfl
    | some s => exact shR_bind ((sum_s h).sh (j + 1) (one_lt hs)) fun b k hk => rfl⟩
theorem join_s {lo lo' : Option Lv} (h : OS A B lo lo') (kd : Int) (a : GTree) (j : Nat) (hj : j < B.length) : joinS lo' kd a (A.length + j) = shR A.length (joinS lo kd a j) :=
  within_s h j fun L L' hL => shR_bind (hL.ex.sh (j + 1) hj) fun b m hm => rfl
theorem expr_s {lo lo' : Option Lv} (h : OS A B lo lo') : XS A B (exprS B lo) (exprS (A ++ B) lo') := ⟨exprS_on h.on, fun i hi =>
  shR_bind ((cmp_s h).sh i hi) fun a j hj => by
    rw [is_sh, is_sh]
    split
    · rename_i hc; exact join_s h 9 a j (isAt_lt hc)
    split
    · rename_i hc; exact join_s h 10 a j (isAt_lt hc)
    · rfl⟩
theorem lo_s : ∀ n, OS A B (loS B n) (loS (A ++ B) n)
  | 0 => .none
  | n + 1 => .some ⟨expr_s (lo_s n), unary_s (lo_s n)⟩
theorem params_s : ∀ f f' i acc, i ≤ B.length → B.length < f + i → B.length < f' + i → paramsS (A ++ B) f' (A.length + i) acc = shR A.length (paramsS B f i acc)
  | 0, f', i, acc, hi, hf, hf' => by omega
  | f + 1, 0, i, acc, hi, hf, hf' => by omega
  | f + 1, f' + 1, i, acc, hi, hf, hf' => by
    unfold paramsS
    rw [is_sh]
    split
    · rfl
    · refine shR_bind (r := if acc.isEmpty then PR.ok () i else wantS B i sComma) ?_ fun _ j hj => ?_
      · split
        · rfl
        · exact want_s i sComma
      · rw [at_sh]
        cases ht : B[j]? with
        | none => rfl
        | some t =>
          have hl : j < B.length := (List.getElem?_eq_some_iff.1 ht).1
          have hij : i ≤ j := by
            split at hj
            · cases hj; exact Nat.le_refl _
            · have := wantS_on B i sComma _ j hj
              omega
          dsimp only
          split
          · exact params_s f f' (j + 1) _ hl (by omega) (by omega)
          · rfl
theorem fun_s (i : Nat) (hi : i ≤ B.length) : funS (A ++ B) (A.length + i) = shR A.length (funS B i) := by
  unfold funS
  rw [at_sh]
  cases ht : B[i]? with
  | none => rfl
  | some t =>
    have hl : i < B.length := (List.getElem?_eq_some_iff.1 ht).1
    dsimp only
    split
    · exact shR_bind (want_s (i + 1) sOpen) fun _ j hj => shR_bind (params_s _ _ j _ (wantS_on B _ sOpen _ j hj).2 (by omega) (by simp; omega)) fun l k hk => shR_bind (want_s k sShut) fun _ m hm => shR_bind (want_s m sArrow) fun _ q hq => shR_bind (body_s (expr_s (lo_s 40)) q (wantS_on B m sArrow _ q hq).2) fun b r hr => shR_bind (want_s r sDot) fun _ z hz => rfl
    · rfl
theorem funs_s : ∀ f f' i acc acc', i ≤ B.length → B.length < f + i → B.length < f' + i → ∀ l j, funsS B f i acc = .ok (acc ++ l) j → funsS (A ++ B) f' (A.length + i) acc' = .ok (acc' ++ l) (A.length + j)
  | 0, f', i, acc, acc', hi, hf, hf' => by omega
  | f + 1, 0, i, acc, acc', hi, hf, hf' => by omega
  | f + 1, f' + 1, i, acc, acc', hi, hf, hf' => by
    intro l j h
    unfold funsS at h ⊢
    by_cases c : i < B.length
    · rw [if_pos c] at h
      rw [if_pos (by rw [List.length_append]; omega), fun_s i hi]
      cases hr : funS B i with
      | bad k c => rw [hr] at h; cases h
      | ok t k =>
        rw [hr] at h
        have := funS_on B i t k hr
        dsimp only [PR.bind, shR] at h ⊢
        obtain ⟨q, hq⟩ := funs_pre B f k (acc ++ [t]) _ _ h
        have e : l = t :: q := by
          rw [List.append_assoc] at hq
          exact List.append_cancel_left hq
        have h' : funsS B f k (acc ++ [t]) = .ok ((acc ++ [t]) ++ q) j := by rw [h, e]; simp
        rw [funs_s f f' k (acc ++ [t]) (acc' ++ [t]) (by omega) (by omega) (by omega) q j h', e]
        simp
    · rw [if_neg c] at h
      rw [if_neg (by rw [List.length_append]; omega)]
      obtain ⟨h1, h2⟩ : acc = acc ++ l ∧ i = j := by simpa using h
      have : l = [] := by
        have := congrArg List.length h1
        rw [List.length_append] at this
        exact List.eq_nil_of_length_eq_zero (by omega)
      rw [this, h2]
      simp
theorem funs_both : ∀ f i acc l, i ≤ A.length → A.length < f + i → funsS A f i acc = .ok l A.length → ∀ (q : List GTree) (m : Nat), parseS B = .ok (.node 18 gE 0 [] q) m → ∀ f', (A ++ B).length < f' + i → ∃ z, funsS (A ++ B) f' i acc = .ok (l ++ q) z
  | 0, i, acc, l, hi, hf => by omega
  | f + 1, i, acc, l, hi, hf => by
    intro h q m hB f' hf'
    have hl : (A ++ B).length = A.length + B.length := List.length_append
    obtain ⟨f', rfl⟩ : ∃ g, f' = g + 1 := ⟨f' - 1, by omega⟩
    by_cases c : i < A.length
    · unfold funsS at h ⊢
      rw [if_pos c] at h
      rw [if_pos (by omega)]
      cases hr : funS A i with
      | bad k c => rw [hr] at h; cases h
      | ok t k =>
        rw [hr] at h
        have := funS_on A i t k hr
        rw [fun_l i c hr]
        exact funs_both f k _ l (by omega) (by omega) h q m hB f' (by omega)
    · have e : i = A.length := by omega
      subst e
      have hl2 : l = acc := by
        unfold funsS at h
        rw [if_neg c] at h
        simpa using h.symm
      unfold parseS at hB
      cases hb : funsS B (B.length + 1) 0 [] with
      | bad k c => rw [hb] at hB; cases hB
      | ok l2 m2 =>
        rw [hb] at hB
        have hq : l2 = q := by
          dsimp only [PR.bind] at hB
          simp only [PR.ok.injEq, GTree.node.injEq] at hB
          exact hB.1.2.2.2.2
        subst hq
        have := funs_s (A := A) (B := B) (B.length + 1) (f' + 1) 0 [] acc (Nat.zero_le _) (by omega) (by omega) l2 m2 hb
        rw [hl2]
        exact ⟨_, this⟩
/-- Of tokens that are trees, one behind the other: the trees, one behind the other. -/
theorem parse_both {p q : List GTree} {i j : Nat} (hA : parseS A = .ok (.node 18 gE 0 [] p) i) (hB : parseS B = .ok (.node 18 gE 0 [] q) j) : ∃ z, parseS (A ++ B) = .ok (.node 18 gE 0 [] (p ++ q)) z := by
  have hA' := hA
  unfold parseS at hA
  cases hf : funsS A (A.length + 1) 0 [] with
  | bad k c => rw [hf] at hA; cases hA
  | ok l k =>
    rw [hf] at hA
    have hp : l = p := by
      dsimp only [PR.bind] at hA
      simp only [PR.ok.injEq, GTree.node.injEq] at hA
      exact hA.1.2.2.2.2
    subst hp
    have he := funs_end A (A.length + 1) 0 [] (by omega) (Nat.zero_le _) l k hf
    subst he
    obtain ⟨z, hz⟩ := funs_both (B := B) (A.length + 1) 0 [] l (Nat.zero_le _) (by omega) hf q j hB ((A ++ B).length + 1) (by omega)
    refine ⟨z, ?_⟩
    unfold parseS
    rw [hz]
    rfl
end
def er (t : GT) : GT := ⟨t.kd, t.s, t.n, t.b, 0⟩
section
variable (T : List GT)
theorem is_er : isAt (T.map er) = isAt T := by
  funext i s
  unfold isAt
  rw [List.getElem?_map]
  cases T[i]? <;> rfl
theorem want_er : wantS (T.map er) = wantS T := by funext i s; unfold wantS; rw [is_er]
theorem more_er : moreS (T.map er) = moreS T := by
  funext ex f
  induction f with
  | zero => rfl
  | succ f ih => funext i acc; unfold moreS; rw [is_er, ih]
theorem body_er : bodyS (T.map er) = bodyS T := by funext ex i; unfold bodyS; rw [more_er, List.length_map]
theorem list_er : listS (T.map er) = listS T := by funext ex e i; unfold listS; rw [is_er, more_er, want_er, List.length_map]
theorem clauses_er : clausesS (T.map er) = clausesS T := by
  funext L f
  induction f with
  | zero => rfl
  | succ f ih => funext i acc; unfold clausesS; rw [is_er, want_er, body_er, ih]
theorem case_er : caseS (T.map er) = caseS T := by funext L i; unfold caseS; rw [want_er, clauses_er, List.length_map]
theorem head_er : headS (T.map er) = headS T := by funext L i; unfold headS; rw [is_er, clauses_er, List.length_map]
theorem after_er : afterS (T.map er) = afterS T := by funext L l i; unfold afterS; rw [is_er, want_er, body_er]
theorem recv_er : recvS (T.map er) = recvS T := by funext L i; unfold recvS; rw [want_er, head_er, after_er]
theorem paren_er : parenS (T.map er) = parenS T := by funext L i; unfold parenS; rw [want_er]
theorem rowS_er : rowS (T.map er) = rowS T := by funext kd s e L i; unfold rowS; rw [list_er]
theorem opens_er : opensS (T.map er) = opensS T := by funext lo i; unfold opensS; rw [is_er, paren_er, rowS_er, case_er, recv_er]
theorem prim_er : primS (T.map er) = primS T := by
  funext lo i
  unfold primS
  rw [List.getElem?_map, is_er, rowS_er, opens_er]
  cases T[i]? <;> rfl
theorem unary_er : unaryS (T.map er) = unaryS T := by funext lo i; unfold unaryS; rw [is_er, prim_er]
theorem one_er : oneS (T.map er) = oneS T := by funext i l; unfold oneS; rw [is_er]
theorem chain_er : chainS (T.map er) = chainS T := by
  funext sub signs f
  induction f with
  | zero => rfl
  | succ f ih => funext i a; unfold chainS; rw [one_er, ih]
theorem prod_er : prodS (T.map er) = prodS T := by funext lo i; unfold prodS; rw [unary_er, chain_er, List.length_map]
theorem sum_er : sumS (T.map er) = sumS T := by funext lo i; unfold sumS; rw [prod_er, chain_er, List.length_map]
theorem cmp_er : cmpS (T.map er) = cmpS T := by funext lo i; unfold cmpS; rw [sum_er, one_er]
theorem expr_er : exprS (T.map er) = exprS T := by funext lo i; unfold exprS; rw [cmp_er, is_er]
theorem lo_er : ∀ n, loS (T.map er) n = loS T n
  | 0 => rfl
  | n + 1 => by unfold loS; rw [lo_er n, expr_er, unary_er]
theorem params_er : paramsS (T.map er) = paramsS T := by
  funext f
  induction f with
  | zero => rfl
  | succ f ih =>
    funext i acc
    unfold paramsS
    rw [is_er, want_er, ih]
    split
    · rfl
    · congr 1
      funext _ j
      rw [List.getElem?_map]
      cases T[j]? <;> rfl
theorem fun_er : funS (T.map er) = funS T := by
  funext i
  unfold funS
  rw [List.getElem?_map, want_er, params_er, body_er, expr_er, lo_er, List.length_map]
  cases T[i]? <;> rfl
theorem funs_er : funsS (T.map er) = funsS T := by
  funext f
  induction f with
  | zero => rfl
  | succ f ih => funext i acc; unfold funsS; rw [fun_er, ih, List.length_map]
theorem parse_er : parseS (T.map er) = parseS T := by unfold parseS; rw [funs_er, List.length_map]
end
theorem parse_same {T T' : List GT} (h : T'.map er = T.map er) : parseS T' = parseS T := by rw [← parse_er T', h, parse_er T]
end Go.Proofs.YtejidddjkngoiaaDoor
