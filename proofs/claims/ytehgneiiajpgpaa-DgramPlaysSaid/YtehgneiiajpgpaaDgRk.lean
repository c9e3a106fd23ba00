/- dgram: the program's net and the document's agree, call by call (plain law). -/
import Derived.Test.YtehgneiiajpgpaaDgRj
namespace Go.Proofs.Ytehgneiiajpgpaa
open Go.RowKit
set_option linter.all false

def rspoil0 (R : RA) (i at' m : Int) : RA × Option D0 × Int := if rbad R i then (R, none, 92) else match R.way[i.toNat]? with
  | none => (R, none, 92)
  | some d => if d.sp = true then (R, none, 94) else if at' < 0 ∨ (d.b.length : Int) ≤ at' then (R, none, 93) else ({ R with way := R.way.set i.toNat { d with b := spoilB m at'.toNat d.b, sp := true } }, none, 0)
def rdo0 (R : RA) (o : Op0) (b : List Int) : RA × Option D0 × Int :=
  if o.kd = 0 then rsend0 R o.f o.t b
  else if o.kd = 1 then rdel0 R o.i
  else if o.kd = 2 then rdrop0 R o.i
  else if o.kd = 3 then rtwin0 R o.i
  else if o.kd = 4 then rspoil0 R o.i o.at' o.m
  else if o.kd = 5 then rtake0 R o.f
  else rwipe0 R o.f
structure Sim (N : Net0) (M : RA) : Prop where
  nodes : N.nodes = M.nodes
  next : N.next = M.sent
  way : N.way = M.way
  lost : N.lost = M.lost
  box : ∀ k, N.box k = M.boxes.filter fun x => x.t == k
theorem find_none : ∀ (l : List D0) (k : Int), l.findIdx? (fun x => x.t == k) = none → (l.filter fun x => x.t == k) = []
  | l, k, h => by
    rw [List.findIdx?_eq_none_iff] at h
    rw [List.filter_eq_nil_iff]
    intro x hx
    simpa using h x hx
theorem find_some : ∀ (l : List D0) (k : Int) (i : Nat), l.findIdx? (fun x => x.t == k) = some i → ∃ x, l[i]? = some x ∧ (l.filter fun y => y.t == k) = x :: ((l.eraseIdx i).filter fun y => y.t == k) ∧ ∀ j, j ≠ k → ((l.eraseIdx i).filter fun y => y.t == j) = l.filter fun y => y.t == j
  | [], k, i, h => by simp at h
  | a :: l, k, i, h => by
    rw [List.findIdx?_cons] at h
    by_cases hk : a.t = k
    · have hk' : (a.t == k) = true := by simpa using hk
      rw [hk'] at h
      simp at h
      subst h
      refine ⟨a, rfl, by simp [hk], fun j hj => ?_⟩
      have : (a.t == j) = false := by simpa [hk] using Ne.symm hj
      simp [List.filter_cons, this]
    · have hk' : (a.t == k) = false := by simpa using hk
      rw [hk'] at h
      simp only [Bool.false_eq_true, if_false] at h
      rw [Option.map_eq_some_iff] at h
      obtain ⟨i', h1, rfl⟩ := h
      obtain ⟨x, e1, e2, e3⟩ := find_some l k i' h1
      refine ⟨x, by simpa using e1, ?_, fun j hj => ?_⟩
      · simp [List.filter_cons, hk', e2]
      · simp only [List.eraseIdx_cons_succ, List.filter_cons, e3 j hj]
theorem filter_wipe (l : List D0) (k j : Int) : ((l.filter fun x => !(x.t == k)).filter fun y => y.t == j) = if j = k then [] else l.filter fun y => y.t == j := by
  induction l with
  | nil => simp
  | cons a l ih =>
    by_cases hk : a.t = k <;> by_cases hj : j = k <;> by_cases ha : a.t = j <;> simp_all [List.filter_cons]
theorem at0_way {N : Net0} {M : RA} (h : Sim N M) (i : Int) : (rbad M i ∧ at0 N i = none) ∨ (¬ rbad M i ∧ ∃ d, at0 N i = some d ∧ M.way[i.toNat]? = some d ∧ 0 ≤ i ∧ i < M.way.length) := by
  by_cases hb : rbad M i
  · exact .inl ⟨hb, at0_none.2 (by rw [h.way]; exact hb)⟩
  · refine .inr ⟨hb, ?_⟩
    unfold rbad at hb
    have h0 : 0 ≤ i ∧ i < M.way.length := by omega
    refine ⟨M.way[i.toNat]'(by omega), ?_, List.getElem?_eq_getElem (by omega), h0⟩
    unfold at0
    rw [if_neg (by omega), h.way]
    exact List.getElem?_eq_getElem (by omega)
theorem Sim.put {N : Net0} {M : RA} (h : Sim N M) (hl : N.way.length ≤ 1024) (d : D0) : Sim (put0 N d) (rput0 M d) := by
  unfold put0 rput0
  by_cases hf : 1024 ≤ N.way.length
  · rw [if_pos hf, if_pos (by rw [← h.way]; omega)]
    exact ⟨h.nodes, h.next, h.way, by dsimp only; rw [h.lost], h.box⟩
  · rw [if_neg hf, if_neg (by rw [← h.way]; omega)]
    exact ⟨h.nodes, h.next, by dsimp only; rw [h.way], h.lost, h.box⟩
def Agree (r : Net0 × Option D0 × Int) (s : RA × Option D0 × Int) : Prop := Sim r.1 s.1 ∧ r.2 = s.2 ∧ True
theorem Agree.mk' {N : Net0} {M : RA} {x : Option D0} {c : Int} (h : Sim N M) : Agree (N, x, c) (M, x, c) := ⟨h, rfl, trivial⟩
theorem Sim.did {N : Net0} {M : RA} (h : Sim N M) (hl : N.way.length ≤ 1024) (hb : ∀ k, (N.box k).length ≤ 64) (o : Op0) (b : List Int) : Agree (do0 N o b) (rdo0 M o b) := by
  unfold do0 rdo0
  have hn : ∀ k, nodeB N k = rnodeB M k := fun k => by unfold nodeB rnodeB; rw [h.nodes]
  by_cases k0 : o.kd = 0
  · rw [if_pos k0, if_pos k0]
    unfold send0 rsend0
    rw [hn, hn]
    by_cases h1 : rnodeB M o.f = false ∨ rnodeB M o.t = false ∨ o.f = o.t
    · rw [if_pos h1, if_pos h1]; exact .mk' h
    · rw [if_neg h1, if_neg h1]
      by_cases h2 : 1212 < b.length
      · rw [if_pos h2, if_pos h2]; exact .mk' h
      · rw [if_neg h2, if_neg h2]
        dsimp only
        rw [h.next]
        exact .mk' (Sim.put (N := { N with next := u64s M.sent }) (M := { M with sent := u64s M.sent }) ⟨h.nodes, rfl, h.way, h.lost, h.box⟩ hl _)
  rw [if_neg k0, if_neg k0]
  by_cases k1 : o.kd = 1
  · rw [if_pos k1, if_pos k1]
    unfold deliver0 rdel0
    rcases at0_way h o.i with ⟨h1, h2⟩ | ⟨h1, d, h2, h3, h4, h5⟩
    · rw [if_pos h1, h2]; exact .mk' h
    · rw [if_neg h1, h2, h3]
      dsimp only
      have hc : cntB d.t M.boxes = (N.box d.t).length := by rw [h.box]; rfl
      have := hb d.t
      by_cases h6 : 64 ≤ (N.box d.t).length
      · rw [if_pos h6, if_pos (by omega)]
        exact .mk' ⟨h.nodes, h.next, by dsimp only; rw [h.way], by dsimp only; rw [h.lost], h.box⟩
      · rw [if_neg h6, if_neg (by omega)]
        refine .mk' ⟨h.nodes, h.next, by dsimp only; rw [h.way], h.lost, fun k => ?_⟩
        dsimp only [upd0]
        rw [List.filter_append]
        by_cases hk : k = d.t
        · subst hk
          rw [if_pos rfl, h.box]
          simp
        · have : (d.t == k) = false := by simpa using Ne.symm hk
          rw [if_neg hk, h.box]
          simp [List.filter_cons, this]
  rw [if_neg k1, if_neg k1]
  by_cases k2 : o.kd = 2
  · rw [if_pos k2, if_pos k2]
    unfold drop0 rdrop0
    rcases at0_way h o.i with ⟨h1, h2⟩ | ⟨h1, d, h2, h3, h4, h5⟩
    · rw [if_pos h1, h2]; exact .mk' h
    · rw [if_neg h1, h2]
      exact .mk' ⟨h.nodes, h.next, by dsimp only; rw [h.way], by dsimp only; rw [h.lost], h.box⟩
  rw [if_neg k2, if_neg k2]
  by_cases k3 : o.kd = 3
  · rw [if_pos k3, if_pos k3]
    unfold twin0 rtwin0
    rcases at0_way h o.i with ⟨h1, h2⟩ | ⟨h1, d, h2, h3, h4, h5⟩
    · rw [if_pos h1, h2]; exact .mk' h
    · rw [if_neg h1, h2, h3]
      exact .mk' (h.put hl d)
  rw [if_neg k3, if_neg k3]
  by_cases k4 : o.kd = 4
  · rw [if_pos k4, if_pos k4]
    unfold spoil0 rspoil0
    rcases at0_way h o.i with ⟨h1, h2⟩ | ⟨h1, d, h2, h3, h4, h5⟩
    · rw [if_pos h1, h2]; exact .mk' h
    · rw [if_neg h1, h2, h3]
      dsimp only
      by_cases h6 : d.sp = true
      · rw [if_pos h6, if_pos h6]; exact .mk' h
      · rw [if_neg h6, if_neg h6]
        by_cases h7 : o.at' < 0 ∨ (d.b.length : Int) ≤ o.at'
        · rw [if_pos h7, if_pos h7]; exact .mk' h
        · rw [if_neg h7, if_neg h7]
          exact .mk' ⟨h.nodes, h.next, by dsimp only; rw [h.way], h.lost, h.box⟩
  rw [if_neg k4, if_neg k4]
  by_cases k5 : o.kd = 5
  · rw [if_pos k5, if_pos k5]
    unfold take0 rtake0
    rw [hn]
    by_cases h1 : rnodeB M o.f = false
    · rw [if_pos h1, if_pos h1]; exact .mk' h
    · rw [if_neg h1, if_neg h1]
      cases hf : M.boxes.findIdx? (fun x => x.t == o.f) with
      | none =>
        rw [h.box, find_none _ _ hf]
        exact .mk' h
      | some i =>
        obtain ⟨x, e1, e2, e3⟩ := find_some _ _ _ hf
        rw [h.box, e2]
        dsimp only
        rw [e1]
        refine .mk' ⟨h.nodes, h.next, h.way, h.lost, fun k => ?_⟩
        dsimp only [upd0]
        by_cases hk : k = o.f
        · rw [if_pos hk, hk]
        · rw [if_neg hk, h.box, e3 k hk]
  rw [if_neg k5, if_neg k5]
  unfold wipe0 rwipe0
  rw [hn]
  by_cases h1 : rnodeB M o.f = false
  · rw [if_pos h1, if_pos h1]; exact .mk' h
  · rw [if_neg h1, if_neg h1]
    refine .mk' ⟨h.nodes, h.next, h.way, by dsimp only; rw [h.lost, h.box]; rfl, fun k => ?_⟩
    dsimp only [upd0]
    rw [filter_wipe]
    by_cases hk : k = o.f
    · rw [if_pos hk, if_pos hk]
    · rw [if_neg hk, if_neg hk, h.box]
theorem rput0_boxes (R : RA) (d : D0) : (rput0 R d).boxes = R.boxes ∧ (rput0 R d).nodes = R.nodes := by unfold rput0; split <;> exact ⟨rfl, rfl⟩
theorem rdo0_boxes (R : RA) (o : Op0) (b : List Int) : (rdo0 R o b).1.boxes.length ≤ R.boxes.length + 1 := by
  unfold rdo0
  split
  · unfold rsend0
    split
    · exact Nat.le_succ _
    · split
      · exact Nat.le_succ _
      · dsimp only; rw [(rput0_boxes _ _).1]; exact Nat.le_succ _
  · split
    · unfold rdel0
      split
      · exact Nat.le_succ _
      · split
        · exact Nat.le_succ _
        · split
          · exact Nat.le_succ _
          · simp
    · split
      · unfold rdrop0
        split <;> exact Nat.le_succ _
      · split
        · unfold rtwin0
          split
          · exact Nat.le_succ _
          · split
            · exact Nat.le_succ _
            · dsimp only; rw [(rput0_boxes _ _).1]; exact Nat.le_succ _
        · split
          · unfold rspoil0
            split
            · exact Nat.le_succ _
            · split
              · exact Nat.le_succ _
              · split
                · exact Nat.le_succ _
                · split <;> exact Nat.le_succ _
          · split
            · unfold rtake0
              split
              · exact Nat.le_succ _
              · split
                · exact Nat.le_succ _
                · dsimp only
                  have := List.length_eraseIdx_le R.boxes ‹Nat›
                  omega
            · unfold rwipe0
              split
              · exact Nat.le_succ _
              · dsimp only
                have := List.length_filter_le (fun x : D0 => !(x.t == o.f)) R.boxes
                omega
end Go.Proofs.Ytehgneiiajpgpaa
