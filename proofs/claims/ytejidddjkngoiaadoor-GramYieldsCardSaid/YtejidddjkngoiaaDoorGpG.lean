/- gram: of what a scan gives: how many tokens, how many bytes they have, and which have any. -/
import Derived.Test.YtejidddjkngoiaaDoorGpA
import Derived.Test.YtejidddjkngoiaaDoorGmS
namespace Go.Proofs.YtejidddjkngoiaaDoor
open Go.RowKit Go.Proofs.YtejidddjkngoiaaDoor.PGram Go.Proofs.YtejidddjkngoiaaDoorW.PrintWords
set_option linter.all false

theorem quotedL_b : ∀ (n : Nat) (l : List UInt8) (b : List Int) (m : Nat), l.length ≤ n → quotedL l = some (b, m) → b.length ≤ m := by
  intro n
  induction n with
  | zero =>
    intro l b m hn h
    cases l with
    | nil => simp [quotedL] at h
    | cons c r => simp at hn
  | succ n ih =>
    intro l b m hn h
    cases l with
    | nil => simp [quotedL] at h
    | cons c r =>
      have hr : r.length ≤ n := by simpa using hn
      have add : ∀ (v : Int) (k : Nat) (l' : List UInt8), l'.length ≤ n → 1 ≤ k → addB v k (quotedL l') = some (b, m) → b.length ≤ m := by
        intro v k l' h1 h2 h3
        cases hq : quotedL l' with
        | none => rw [hq] at h3; cases h3
        | some p =>
          obtain ⟨b', m'⟩ := p
          rw [hq] at h3
          have := ih l' b' m' h1 hq
          simp only [addB, Option.some.injEq, Prod.mk.injEq] at h3
          rw [← h3.1, ← h3.2]
          simp only [List.length_cons]
          omega
      unfold quotedL at h
      by_cases c1 : c.toNat < 32 ∨ 126 < c.toNat
      · rw [if_pos c1] at h; cases h
      rw [if_neg c1] at h
      by_cases c2 : c.toNat = 34
      · rw [if_pos c2] at h
        simp only [Option.some.injEq, Prod.mk.injEq] at h
        rw [← h.1]
        simp
      rw [if_neg c2] at h
      by_cases c3 : c.toNat = 92
      · rw [if_pos c3, quoted_esc] at h
        cases hE : escL r with
        | none => rw [hE] at h; cases h
        | some p =>
          obtain ⟨v, k⟩ := p
          rw [hE] at h
          have := escL_le hE
          exact add v (1 + k) (r.drop k) (by rw [List.length_drop]; omega) (by omega) h
      · rw [if_neg c3] at h
        exact add _ 1 r hr (Nat.le_refl _) h
theorem tok_b (l : List UInt8) : (tokL l).2.2.2.1.length ≤ l.length := by
  unfold tokL
  split
  · simp
  split
  · cases hL : quotedL (l.drop 1) with
    | none => simp
    | some p =>
      obtain ⟨b, n⟩ := p
      have h1 := quotedL_b _ _ _ _ (Nat.le_refl _) hL
      have h2 := quotedL_le _ _ _ _ (Nat.le_refl _) hL
      rw [List.length_drop] at h2
      dsimp only
      omega
  split
  · simp
  split
  · split <;> simp
  · split <;> simp
theorem scan_b : ∀ (m c i : Nat) (l : List UInt8), ∀ t ∈ (scanL m c i l).1, t.f3.length ≤ l.length
  | 0, c, i, l, t, ht => by cases ht
  | m + 1, c, i, l, t, ht => by
    have hrl : (l.drop (gapL false l)).length = l.length - gapL false l := List.length_drop
    unfold scanL at ht
    dsimp only at ht
    generalize l.drop (gapL false l) = r at ht hrl
    by_cases hz : r = []
    · rw [if_pos hz] at ht; cases ht
    rw [if_neg hz] at ht
    by_cases hc : c = 4000
    · rw [if_pos hc] at ht; cases ht
    rw [if_neg hc] at ht
    by_cases he : tokE r = 0
    · rw [if_pos he] at ht
      have hdl : (r.drop (tokN r)).length = r.length - tokN r := List.length_drop
      by_cases hx : (scanL m (c + 1) (i + gapL false l + tokN r) (r.drop (tokN r))).2.2 = 0
      · rw [if_pos hx] at ht
        rcases List.mem_cons.mp ht with e | ht
        · rw [e]
          have := tok_b r
          show (tokL r).2.2.2.1.length ≤ l.length
          omega
        · have IH := scan_b m _ _ _ t ht
          omega
      · rw [if_neg hx] at ht; cases ht
    · rw [if_neg he] at ht; cases ht
theorem scan_cap : ∀ (m c i : Nat) (l : List UInt8), c ≤ 4000 → c + (scanL m c i l).1.length ≤ 4000
  | 0, c, i, l, h => by
    show c + 0 ≤ 4000
    omega
  | m + 1, c, i, l, h => by
    unfold scanL
    dsimp only
    generalize l.drop (gapL false l) = r
    by_cases hz : r = []
    · rw [if_pos hz]
      exact h
    rw [if_neg hz]
    by_cases hc : c = 4000
    · rw [if_pos hc]
      exact h
    rw [if_neg hc]
    by_cases he : tokE r = 0
    · rw [if_pos he]
      have IH := scan_cap m (c + 1) (i + gapL false l + tokN r) (r.drop (tokN r)) (by omega)
      by_cases hx : (scanL m (c + 1) (i + gapL false l + tokN r) (r.drop (tokN r))).2.2 = 0
      · rw [if_pos hx]
        simp only [List.length_cons]
        omega
      · rw [if_neg hx]
        exact h
    · rw [if_neg he]
      exact h
theorem tok_four (l : List UInt8) : (tokL l).1 = 4 ∨ (tokL l).2.2.2.1 = [] := by
  unfold tokL
  split
  · exact .inr rfl
  split
  · cases hL : quotedL (l.drop 1) with
    | none => exact .inr rfl
    | some p => exact .inl rfl
  split
  · exact .inr rfl
  split
  · split <;> exact .inr rfl
  · split <;> exact .inr rfl
theorem scan_four : ∀ (m c i : Nat) (l : List UInt8), ∀ t ∈ (scanL m c i l).1, t.f0 = 4 ∨ t.f3 = []
  | 0, c, i, l, t, ht => by cases ht
  | m + 1, c, i, l, t, ht => by
    unfold scanL at ht
    dsimp only at ht
    generalize l.drop (gapL false l) = r at ht
    by_cases hz : r = []
    · rw [if_pos hz] at ht; cases ht
    rw [if_neg hz] at ht
    by_cases hc : c = 4000
    · rw [if_pos hc] at ht; cases ht
    rw [if_neg hc] at ht
    by_cases he : tokE r = 0
    · rw [if_pos he] at ht
      by_cases hx : (scanL m (c + 1) (i + gapL false l + tokN r) (r.drop (tokN r))).2.2 = 0
      · rw [if_pos hx] at ht
        rcases List.mem_cons.mp ht with e | ht
        · rw [e]
          exact tok_four r
        · exact scan_four m _ _ _ t ht
      · rw [if_neg hx] at ht; cases ht
    · rw [if_neg he] at ht; cases ht
/-- What is told of a text's tokens. -/
theorem scan_facts (s : ByteArray) : (scanA s).1.length ≤ 4000 ∧ ∀ t ∈ (scanA s).1, t.f3.length ≤ 16384 ∧ (t.f0 = 4 ∨ t.f3 = []) := by
  unfold scanA
  split
  · exact ⟨by simp, fun t ht => by cases ht⟩
  split
  · rename_i h1 h2
    have h3 := scan_cap (s.size + 1) 0 0 s.data.toList (by omega)
    refine ⟨by dsimp only; omega, fun t ht => ⟨?_, scan_four _ _ _ _ t ht⟩⟩
    have h4 := scan_b _ _ _ _ t ht
    have : s.data.toList.length = s.size := rfl
    omega
  · exact ⟨by simp, fun t ht => by cases ht⟩
theorem scan_parse (s : ByteArray) : ((scanA s).1.length ≤ 100000 ∧ ((scanA s).1.all fun x => decide (x.f3.length ≤ 1000000000)) = true) := by
  obtain ⟨h1, h2⟩ := scan_facts s
  refine ⟨by omega, List.all_eq_true.mpr fun x hx => ?_⟩
  have := (h2 x hx).1
  exact decide_eq_true (by omega)
end Go.Proofs.YtejidddjkngoiaaDoor
