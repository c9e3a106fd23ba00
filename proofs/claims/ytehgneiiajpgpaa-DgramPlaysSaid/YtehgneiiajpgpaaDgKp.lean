/- dgram: nothing is taken that was not sent; nothing twice: what stays true from call to call. -/
import Derived.Test.YtehgneiiajpgpaaDgZ
namespace Go.Proofs.Ytehgneiiajpgpaa
open Go.RowKit
set_option linter.all false

/-- The same bytes, or (spoilt) but for four in a row. -/
def Near (a b : List Int) (sp : Bool) : Prop := a.length = b.length ∧ (a = b ∨ sp = true ∧ ∃ p : Nat, ∀ i, (i < p ∨ p + 4 ≤ i) → a[i]? = b[i]?)
def Good (S : List SOp) (d : D0) : Prop := 1 ≤ d.n ∧ d.n ≤ S.length ∧ ∃ s, S[(d.n - 1).toNat]? = some s ∧ s.o.f = d.f ∧ s.o.t = d.t ∧ Near s.b d.b d.sp
theorem Good.app {S : List SOp} {d : D0} (h : Good S d) (s : SOp) : Good (S ++ [s]) d := by
  obtain ⟨h1, h2, x, h3, h4⟩ := h
  refine ⟨h1, by rw [List.length_append]; omega, x, ?_, h4⟩
  rw [List.getElem?_append_left (by have := (List.getElem?_eq_some_iff.1 h3).1; exact this)]
  exact h3
def sumG (m : List D0 → Nat) (f : Int → List D0) (l : List Int) : Nat := (l.map fun k => m (f k)).sum
theorem sumG_out (m : List D0 → Nat) (f : Int → List D0) (k : Int) (x : List D0) : ∀ l : List Int, k ∉ l → sumG m (upd0 f k x) l = sumG m f l
  | [], _ => rfl
  | j :: l, h => by
    have hj : j ≠ k := fun e => h (by simp [e])
    have ih := sumG_out m f k x l (fun hm => h (List.mem_cons_of_mem _ hm))
    simp only [sumG, List.map_cons, List.sum_cons] at ih ⊢
    rw [ih]
    simp [upd0, hj]
theorem sumG_upd (m : List D0 → Nat) (f : Int → List D0) (k : Int) (x : List D0) : ∀ l : List Int, l.Nodup → k ∈ l → sumG m (upd0 f k x) l + m (f k) = sumG m f l + m x
  | [], _, h => by cases h
  | j :: l, hn, h => by
    obtain ⟨h1, h2⟩ := List.nodup_cons.1 hn
    by_cases e : j = k
    · subst e
      have := sumG_out m f j x l h1
      simp only [sumG, List.map_cons, List.sum_cons] at this ⊢
      rw [this]
      simp [upd0]
      omega
    · have hm : k ∈ l := by rcases List.mem_cons.1 h with h | h; exact absurd h.symm e; exact h
      have ih := sumG_upd m f k x l h2 hm
      simp only [sumG, List.map_cons, List.sum_cons] at ih ⊢
      simp only [upd0, if_neg e] at ih ⊢
      omega
theorem sumG_zero (m : List D0 → Nat) (f : Int → List D0) (h : ∀ k, m (f k) = 0) : ∀ l : List Int, sumG m f l = 0
  | [] => rfl
  | j :: l => by
    have ih := sumG_zero m f h l
    simp only [sumG, List.map_cons, List.sum_cons] at ih ⊢
    rw [ih, h]
def cn (n : Int) (l : List D0) : Nat := (l.map D0.n).count n
theorem cn_app (n : Int) (a b : List D0) : cn n (a ++ b) = cn n a + cn n b := by simp [cn]
theorem cn_one (n : Int) (x : D0) : cn n [x] = if x.n = n then 1 else 0 := by
  unfold cn
  by_cases h : x.n = n
  · simp [h]
  · simp [h]
theorem cn_cons (n : Int) (x : D0) (l : List D0) : cn n (x :: l) = cn n [x] + cn n l := by
  rw [← cn_app]; rfl
theorem cn_out (n : Int) (l : List D0) (h : ∀ x ∈ l, x.n ≠ n) : cn n l = 0 := by
  unfold cn
  rw [List.count_eq_zero]
  intro hm
  obtain ⟨x, hx, he⟩ := List.mem_map.1 hm
  exact h x hx he
theorem split0 {l : List D0} {i : Nat} {d : D0} (h : l[i]? = some d) : l = l.take i ++ d :: l.drop (i + 1) := by
  have hi : i < l.length := (List.getElem?_eq_some_iff.1 h).1
  have e : l[i] = d := (List.getElem?_eq_some_iff.1 h).2
  rw [← e, ← List.drop_eq_getElem_cons hi, List.take_append_drop]
theorem cn_erase (n : Int) {l : List D0} {i : Nat} {d : D0} (h : l[i]? = some d) : cn n (l.eraseIdx i) + cn n [d] = cn n l := by
  have e : cn n l = cn n (l.take i ++ d :: l.drop (i + 1)) := congrArg (cn n) (split0 h)
  rw [e, List.eraseIdx_eq_take_drop_succ, cn_app, cn_app, cn_cons n d (l.drop (i + 1))]
  omega
theorem cn_set (n : Int) {l : List D0} {i : Nat} {d d' : D0} (h : l[i]? = some d) (hn : d'.n = d.n) : cn n (l.set i d') = cn n l := by
  have hi : i < l.length := (List.getElem?_eq_some_iff.1 h).1
  have e : cn n l = cn n (l.take i ++ d :: l.drop (i + 1)) := congrArg (cn n) (split0 h)
  rw [e, List.set_eq_take_append_cons_drop, if_pos hi, cn_app, cn_app, cn_cons n d' (l.drop (i + 1)), cn_cons n d (l.drop (i + 1)), cn_one, cn_one, hn]
def cntN (N : Net0) (n : Int) : Nat := cn n N.way + sumG (cn n) N.box (keysTo N.nodes.toNat)
/-- What stays true: of the net, of what was sent, of the numbers taken, of whether there was a twin. -/
structure Kp (N : Net0) (S : List SOp) (T : List Int) (tw : Bool) (d : Nat) : Prop where
  nodes : N.nodes = 5
  next : N.next = S.length
  slen : S.length ≤ d
  tlen : T.length ≤ d
  way : ∀ x ∈ N.way, Good S x ∧ 1 ≤ x.t ∧ x.t ≤ 5
  box : ∀ k, ∀ x ∈ N.box k, Good S x ∧ x.t = k
  ops : N.ops ≤ d
  one : tw = false → ∀ n, cntN N n + T.count n ≤ 1
  took : ∀ n ∈ T, 1 ≤ n ∧ n ≤ S.length
theorem Kp.more {N : Net0} {S : List SOp} {T : List Int} {tw : Bool} {d : Nat} (h : Kp N S T tw d) : Kp N S T tw (d + 1) :=
  { h with slen := by have := h.slen; omega, tlen := by have := h.tlen; omega, ops := by have := h.ops; omega }
theorem u64s_small {x : Int} (h : 0 ≤ x) (h2 : x ≤ 1000000) : u64s x = x + 1 := by
  unfold u64s
  simp only [IntKind.wrap, IntKind.signed, IntKind.bits]
  simp
  omega
theorem Kp.sent {N : Net0} {S : List SOp} {T : List Int} {tw : Bool} {d : Nat} (h : Kp N S T tw d) (hd : d < 1000) (s : SOp) (ht : 1 ≤ s.o.t ∧ s.o.t ≤ 5) :
    Kp (put0 { N with next := u64s N.next } ⟨s.o.f, s.o.t, u64s N.next, s.b, false⟩) (S ++ [s]) T tw (d + 1) := by
  have hs := h.slen
  have hnx := h.next
  have e : u64s N.next = (S.length : Int) + 1 := by rw [hnx]; exact u64s_small (by omega) (by omega)
  rw [e]
  have hw : ∀ x ∈ N.way, Good (S ++ [s]) x ∧ 1 ≤ x.t ∧ x.t ≤ 5 := fun x hx => ⟨(h.way x hx).1.app s, (h.way x hx).2⟩
  have hb : ∀ k, ∀ x ∈ N.box k, Good (S ++ [s]) x ∧ x.t = k := fun k x hx => ⟨(h.box k x hx).1.app s, (h.box k x hx).2⟩
  have hT : ∀ n ∈ T, 1 ≤ n ∧ n ≤ (S ++ [s]).length := fun n hn => by have := h.took n hn; rw [List.length_append, List.length_singleton]; omega
  have hl : (S ++ [s]).length = S.length + 1 := by simp
  have htl := h.tlen
  have hop := h.ops
  unfold put0
  split
  · exact ⟨h.nodes, by show (S.length : Int) + 1 = _; rw [hl]; omega, by omega, by omega, hw, hb, by show N.ops ≤ _; omega, h.one, hT⟩
  · refine ⟨h.nodes, by show (S.length : Int) + 1 = _; rw [hl]; omega, by omega, by omega, fun x hx => ?_, hb, by show N.ops ≤ _; omega, fun htw n => ?_, hT⟩
    · rcases List.mem_append.1 hx with hx | hx
      · exact hw x hx
      · rw [List.mem_singleton.1 hx]
        refine ⟨⟨by show (1 : Int) ≤ (S.length : Int) + 1; omega, by show (S.length : Int) + 1 ≤ _; rw [hl]; omega, s, ?_, rfl, rfl, rfl, .inl rfl⟩, ht⟩
        show (S ++ [s])[((S.length : Int) + 1 - 1).toNat]? = some s
        rw [show ((S.length : Int) + 1 - 1).toNat = S.length by omega]
        simp
    · have h1 := h.one htw n
      show cn n (N.way ++ [_]) + sumG (cn n) N.box (keysTo N.nodes.toNat) + T.count n ≤ 1
      rw [cn_app, cn_one]
      unfold cntN at h1
      split
      · rename_i hn
        have hn : (S.length : Int) + 1 = n := hn
        have z1 : cn n N.way = 0 := cn_out n _ (fun x hx e => by have := (h.way x hx).1.2.1; omega)
        have z2 : sumG (cn n) N.box (keysTo N.nodes.toNat) = 0 := sumG_zero _ _ (fun k => cn_out n _ (fun x hx e => by have := (h.box k x hx).1.2.1; omega)) _
        have z3 : T.count n = 0 := List.count_eq_zero.2 (fun hm => by have := h.took n hm; omega)
        omega
      · omega
theorem Kp.twin {N : Net0} {S : List SOp} {T : List Int} {tw : Bool} {d : Nat} (h : Kp N S T tw d) (x : D0) (hx : Good S x ∧ 1 ≤ x.t ∧ x.t ≤ 5) : Kp (put0 N x) S T true (d + 1) := by
  have htl := h.tlen
  have hop := h.ops
  have hsl := h.slen
  unfold put0
  split
  · exact ⟨h.nodes, h.next, by omega, by omega, h.way, h.box, by show N.ops ≤ _; omega, (fun e => by cases e), h.took⟩
  · refine ⟨h.nodes, h.next, by omega, by omega, fun y hy => ?_, h.box, by show N.ops ≤ _; omega, (fun e => by cases e), h.took⟩
    rcases List.mem_append.1 hy with hy | hy
    · exact h.way y hy
    · rw [List.mem_singleton.1 hy]; exact hx
theorem at0_some {N : Net0} {i : Int} {x : D0} (h : at0 N i = some x) : N.way[i.toNat]? = some x ∧ x ∈ N.way := by
  have hn : ¬ i < 0 := fun e => by unfold at0 at h; rw [if_pos e] at h; cases h
  unfold at0 at h
  rw [if_neg hn] at h
  exact ⟨h, List.mem_of_getElem? h⟩
theorem Kp.erase {N : Net0} {S : List SOp} {T : List Int} {tw : Bool} {d : Nat} (h : Kp N S T tw d) {i : Int} {x : D0} (hx : at0 N i = some x) (l : Int) : Kp { N with way := N.way.eraseIdx i.toNat, lost := l } S T tw (d + 1) := by
  have htl := h.tlen
  have hop := h.ops
  have hsl := h.slen
  refine ⟨h.nodes, h.next, by omega, by omega, fun y hy => h.way y (List.mem_of_mem_eraseIdx hy), h.box, by show N.ops ≤ _; omega, fun htw n => ?_, h.took⟩
  have h1 := h.one htw n
  have h2 := cn_erase n (at0_some hx).1
  show cn n (N.way.eraseIdx i.toNat) + sumG (cn n) N.box (keysTo N.nodes.toNat) + T.count n ≤ 1
  unfold cntN at h1
  omega
theorem spoilB_near (m : Int) (a : Nat) (b : List Int) : Near b (spoilB m a b) true := by
  refine ⟨(spFold_len m a _ _).symm, .inr ⟨rfl, a, fun i hi => ?_⟩⟩
  have hfold : ∀ (l : List Nat) (B : List Int), (∀ t ∈ l, t < 4) → (l.foldl (spStep m a) B)[i]? = B[i]? := by
    intro l
    induction l with
    | nil => intro B _; rfl
    | cons t l ih =>
      intro B ht
      rw [List.foldl_cons, ih _ (fun t ht' => ht t (List.mem_cons_of_mem _ ht'))]
      unfold spStep
      rw [List.getElem?_modify]
      have := ht t (by simp)
      have hne : ¬ (a + t = i) := by omega
      simp [hne]
  exact (hfold _ _ (fun t ht => List.mem_range.1 ht)).symm
/-- What do answers leaves it true. -/
theorem Kp.did {N : Net0} {S : List SOp} {T : List Int} {tw : Bool} {d : Nat} (h : Kp N S T tw d) (hd : d < 1000) (s : SOp) (hk : 0 ≤ s.o.kd ∧ s.o.kd ≤ 6) :
    Kp (do0 N s.o s.b).1 (if s.o.kd = 0 ∧ (do0 N s.o s.b).2.2 = 0 then S ++ [s] else S) (match (do0 N s.o s.b).2.1 with | none => T | some x => T ++ [x.n]) (tw || (decide (s.o.kd = 3) && decide ((do0 N s.o s.b).2.2 = 0))) (d + 1) ∧
    (∀ x, (do0 N s.o s.b).2.1 = some x → s.o.kd = 5 ∧ Good S x ∧ x.t = s.o.f ∧ (tw = false → x.n ∉ T)) := by
  have htl := h.tlen
  have hop := h.ops
  have hsl := h.slen
  have hk' : s.o.kd = 0 ∨ s.o.kd = 1 ∨ s.o.kd = 2 ∨ s.o.kd = 3 ∨ s.o.kd = 4 ∨ s.o.kd = 5 ∨ s.o.kd = 6 := by omega
  rcases hk' with hk | hk | hk | hk | hk | hk | hk
  · simp only [do0, hk, if_true]
    unfold send0
    split
    · simpa using h.more
    · rename_i h1
      split
      · simpa using h.more
      · have ht2 : 1 ≤ s.o.t ∧ s.o.t ≤ 5 := by
          have : nodeB N s.o.t = true := by
            cases hb : nodeB N s.o.t with
            | true => rfl
            | false => exact absurd (.inr (.inl hb)) h1
          have hh : 1 ≤ s.o.t ∧ s.o.t ≤ N.nodes := by simpa [nodeB] using this
          rw [h.nodes] at hh
          exact hh
        simpa using h.sent hd s ht2
  · simp only [do0, hk]
    simp
    unfold deliver0
    cases ha : at0 N s.o.i with
    | none => simpa using h.more
    | some x =>
      obtain ⟨a1, a2⟩ := at0_some ha
      dsimp only
      split
      · exact h.erase ha _
      · have hk := h.erase ha N.lost
        refine ⟨h.nodes, h.next, by omega, by omega, hk.way, fun k y hy => ?_, by show N.ops + 1 ≤ _; omega, fun htw n => ?_, h.took⟩
        · have hy : y ∈ upd0 N.box x.t (N.box x.t ++ [x]) k := hy
          unfold upd0 at hy
          by_cases e : k = x.t
          · rw [if_pos e] at hy
            rcases List.mem_append.1 hy with hy | hy
            · rw [e]; exact h.box x.t y hy
            · rw [List.mem_singleton.1 hy]; exact ⟨(h.way x a2).1, e.symm⟩
          · rw [if_neg e] at hy
            exact h.box k y hy
        · have h1 := h.one htw n
          have h2 := cn_erase n a1
          have h3 := sumG_upd (cn n) N.box x.t (N.box x.t ++ [x]) (keysTo N.nodes.toNat) (keysTo_nodup _) (mem_keysTo.2 ⟨(h.way x a2).2.1, by have := (h.way x a2).2.2; rw [h.nodes]; exact this⟩)
          rw [cn_app] at h3
          show cn n (N.way.eraseIdx s.o.i.toNat) + sumG (cn n) (upd0 N.box x.t (N.box x.t ++ [x])) (keysTo N.nodes.toNat) + T.count n ≤ 1
          unfold cntN at h1
          omega
  · simp only [do0, hk]
    simp
    unfold drop0
    cases ha : at0 N s.o.i with
    | none => simpa using h.more
    | some x => exact h.erase ha _
  · simp only [do0, hk]
    simp
    unfold twin0
    cases ha : at0 N s.o.i with
    | none => simpa using h.more
    | some x =>
      simpa using h.twin x (h.way x (at0_some ha).2)
  · simp only [do0, hk]
    simp
    unfold spoil0
    cases ha : at0 N s.o.i with
    | none => simpa using h.more
    | some x =>
      obtain ⟨a1, a2⟩ := at0_some ha
      dsimp only
      split
      · simpa using h.more
      · rename_i hsp
        split
        · simpa using h.more
        · refine ⟨h.nodes, h.next, by omega, by omega, fun y hy => ?_, h.box, by show N.ops ≤ _; omega, fun htw n => ?_, h.took⟩
          · rcases List.mem_or_eq_of_mem_set hy with hy | rfl
            · exact h.way y hy
            · obtain ⟨⟨g1, g2, s', g3, g4, g5, g6, g7⟩, g8⟩ := h.way x a2
              refine ⟨⟨g1, g2, s', g3, g4, g5, ?_⟩, g8⟩
              have e : s'.b = x.b := by
                rcases g7 with g7 | g7
                · exact g7
                · exact absurd g7.1 hsp
              rw [e]
              exact spoilB_near _ _ _
          · have h1 := h.one htw n
            show cn n (N.way.set _ _) + sumG (cn n) N.box (keysTo N.nodes.toNat) + T.count n ≤ 1
            have h9 := cn_set n (d' := { x with b := spoilB s.o.m s.o.at'.toNat x.b, sp := true }) a1 rfl
            rw [h9]
            exact h1
  · simp only [do0, hk]
    simp
    unfold take0
    split
    · simpa using h.more
    · rename_i hb
      split
      · simpa using h.more
      · rename_i x r hbx
        have hkk : 1 ≤ s.o.f ∧ s.o.f ≤ N.nodes := by
          have : nodeB N s.o.f = true := by simpa using hb
          simpa [nodeB] using this
        have hx : x ∈ N.box s.o.f := by rw [hbx]; simp
        obtain ⟨b1, b2⟩ := h.box s.o.f x hx
        have h3 := fun n => sumG_upd (cn n) N.box s.o.f r (keysTo N.nodes.toNat) (keysTo_nodup _) (mem_keysTo.2 ⟨hkk.1, by omega⟩)
        refine ⟨⟨h.nodes, h.next, by omega, by rw [List.length_append, List.length_singleton]; omega, h.way, fun k y hy => ?_, by show N.ops + 1 ≤ _; omega, fun htw n => ?_, fun n hn => ?_⟩, fun y hy => ?_⟩
        · have hy : y ∈ upd0 N.box s.o.f r k := hy
          unfold upd0 at hy
          by_cases e : k = s.o.f
          · rw [if_pos e] at hy
            rw [e]
            exact h.box s.o.f y (by rw [hbx]; exact List.mem_cons_of_mem _ hy)
          · rw [if_neg e] at hy
            exact h.box k y hy
        · have h1 := h.one (by simpa using htw) n
          have h4 := h3 n
          rw [hbx, cn_cons, cn_one] at h4
          show cn n N.way + sumG (cn n) (upd0 N.box s.o.f r) (keysTo N.nodes.toNat) + (T ++ [x.n]).count n ≤ 1
          rw [List.count_append]
          unfold cntN at h1
          have h5 : [x.n].count n = if x.n = n then 1 else 0 := by
            by_cases e : x.n = n
            · simp [e]
            · simp [e]
          rw [h5]
          omega
        · rcases List.mem_append.1 hn with hn | hn
          · exact h.took n hn
          · rw [List.mem_singleton.1 hn]; exact ⟨b1.1, b1.2.1⟩
        · obtain rfl : x = y := by simpa using hy
          refine ⟨b1, b2, fun htw hm => ?_⟩
          have h1 := h.one htw x.n
          have h4 := h3 x.n
          rw [hbx, cn_cons, cn_one, if_pos rfl] at h4
          have h6 : 1 ≤ T.count x.n := List.count_pos_iff.2 hm
          unfold cntN at h1
          omega
  · simp only [do0, hk]
    simp
    unfold wipe0
    split
    · simpa using h.more
    · rename_i hb
      have hkk : 1 ≤ s.o.f ∧ s.o.f ≤ N.nodes := by
        have : nodeB N s.o.f = true := by simpa using hb
        simpa [nodeB] using this
      refine ⟨h.nodes, h.next, by omega, by omega, h.way, fun k y hy => ?_, by show N.ops ≤ _; omega, fun htw n => ?_, h.took⟩
      · have hy : y ∈ upd0 N.box s.o.f [] k := hy
        unfold upd0 at hy
        by_cases e : k = s.o.f
        · rw [if_pos e] at hy; cases hy
        · rw [if_neg e] at hy
          exact h.box k y hy
      · have h1 := h.one htw n
        have h3 := sumG_upd (cn n) N.box s.o.f [] (keysTo N.nodes.toNat) (keysTo_nodup _) (mem_keysTo.2 ⟨hkk.1, by omega⟩)
        have h4 : cn n [] = 0 := rfl
        show cn n N.way + sumG (cn n) (upd0 N.box s.o.f []) (keysTo N.nodes.toNat) + T.count n ≤ 1
        unfold cntN at h1
        omega
end Go.Proofs.Ytehgneiiajpgpaa
