/- lex, the plain law: what Spell answers; the tokens that Scan gives, spelt. -/
import Derived.Test.YtgkbmdlelcbmhaaDoorLpD
import Derived.Test.YtgkbmdlelcbmhaaDoorPLexx2
namespace Go.Proofs.YtgkbmdlelcbmhaaDoor
open Go.RowKit Go.Proofs.YtgkbmdlelcbmhaaDoor.PLex Go.Proofs.YtgkbmdlelcbmhaaDoorW.PrintWords
set_option linter.all false

def numsU (L : List UInt8) : List Int := L.map fun b => (b.toNat : Int)
theorem str_numsU (L : List UInt8) : strOfNums (numsU L) = arr L := by
  unfold strOfNums numsU arr
  rw [List.map_map]
  congr 2
  conv => rhs; rw [← List.map_id L]
  apply List.map_congr_left
  intro c _
  simp
theorem numsU_len (a : List UInt8) : (numsU a).length = a.length := by simp [numsU]
theorem toList_loop (s : ByteArray) : ∀ (d i : Nat) (r : List UInt8), s.size - i = d → ByteArray.toList.loop s i r = r.reverse ++ s.data.toList.drop i
  | 0, i, r, h => by
    unfold ByteArray.toList.loop
    have hz : s.data.toList.length = s.size := rfl
    rw [if_neg (by omega), List.drop_eq_nil_of_le (by omega), List.append_nil]
  | d + 1, i, r, h => by
    unfold ByteArray.toList.loop
    have hz : s.data.toList.length = s.size := rfl
    have hl : i < s.data.toList.length := by omega
    rw [if_pos (by omega), toList_loop s d (i + 1) _ (by omega), List.drop_eq_getElem_cons hl]
    have e : s.get! i = s.data.toList[i] := by
      show s.data[i]! = _
      rw [getElem!_pos s.data i (by exact hl)]
      rfl
    rw [e]
    simp
theorem toList_data (s : ByteArray) : s.toList = s.data.toList := by
  unfold ByteArray.toList
  rw [toList_loop s _ 0 [] rfl]
  simp
theorem arr_toList (l : List UInt8) : (arr l).toList = l := by
  rw [toList_data]
  simp [arr]
theorem arr_app (a b : List UInt8) : arr a ++ arr b = arr (a ++ b) := by
  apply ByteArray.ext
  apply Array.ext'
  simp [arr, ByteArray.data_append]
theorem arr_size (l : List UInt8) : (arr l).size = l.length := by simp [arr, ByteArray.size]
theorem dec_short {u : Nat} (h : u < 9223372036854775808) : (Lib.decDigits u).length ≤ 100 := by
  have G : ∀ (m u : Nat), u < 10 ^ (m + 1) → (Lib.decDigits u).length ≤ m + 1 := by
    intro m
    induction m with
    | zero =>
      intro u hu
      unfold Lib.decDigits
      rw [dif_pos (by simpa using hu)]
      simp
    | succ m ih =>
      intro u hu
      unfold Lib.decDigits
      by_cases h : u < 10
      · rw [dif_pos h]
        simp
      · rw [dif_neg h]
        have := ih (u / 10) (by
          rw [Nat.pow_succ] at hu
          omega)
        simp only [List.length_append, List.length_cons, List.length_nil]
        omega
  exact Nat.le_trans (G 19 u (Nat.lt_trans h (by decide))) (by decide)
/-- what Spell answers -/
def spellA (kd : Int) (s : ByteArray) (n : Int) (b : List Int) : ByteArray :=
  if kd = 4 then arr (34 :: (spQ b ++ [34])) else if kd = 1 then (if n < 0 then ⟨#[]⟩ else arr (Lib.decDigits n.toNat)) else if kd = 2 ∨ kd = 3 ∨ kd = 5 ∨ kd = 6 then s else ⟨#[]⟩
theorem spell_f (kd : Int) (s : ByteArray) (n : Int) (b : List Int) (p : Int) (hb : ∀ v ∈ b, 0 ≤ v ∧ v < 256) (hl : b.length ≤ 65536) (hn : n ≤ 9223372036854775807) : lex_Spell.f kd s n b p = some (spellA kd s n b) := by
  unfold lex_Spell.f spellA
  by_cases h4 : kd = 4
  · rw [if_pos h4, if_pos h4, if_pos ⟨by omega, List.all_eq_true.mpr fun v hv => by simpa using hb v hv⟩]
    rfl
  rw [if_neg h4, if_neg h4]
  by_cases h1 : kd = 1
  · rw [if_pos h1, if_pos h1]
    by_cases h0 : n < 0
    · rw [if_pos h0, if_pos h0]
    · rw [if_neg h0, if_neg h0, if_pos hn]
      unfold Lib.itoa
      rw [if_neg h0]
      rfl
  rw [if_neg h1, if_neg h1]
  by_cases h2 : kd = 2 ∨ kd = 3 ∨ kd = 5 ∨ kd = 6
  · rw [if_pos h2, if_pos h2]
  · rw [if_neg h2, if_neg h2]
theorem quotedL_b : ∀ (n : Nat) (l : List UInt8) (b : List Int) (m : Nat), l.length ≤ n → quotedL l = some (b, m) → b.length ≤ m := by
  intro n
  induction n with
  | zero =>
    intro l b m hn h
    cases l with
    | nil => simp [quotedL] at h
    | cons c r => simp at hn
  | succ n ih =>
    intro l b m hn h
    cases l with
    | nil => simp [quotedL] at h
    | cons c r =>
      have hr : r.length ≤ n := by simpa using hn
      have add : ∀ (v : Int) (k : Nat) (l' : List UInt8), l'.length ≤ n → 1 ≤ k → addB v k (quotedL l') = some (b, m) → b.length ≤ m := by
        intro v k l' h1 h2 h3
        cases hq : quotedL l' with
        | none => rw [hq] at h3; cases h3
        | some p =>
          obtain ⟨b', m'⟩ := p
          rw [hq] at h3
          have := ih l' b' m' h1 hq
          simp only [addB, Option.some.injEq, Prod.mk.injEq] at h3
          rw [← h3.1, ← h3.2]
          simp only [List.length_cons]
          omega
      unfold quotedL at h
      by_cases c1 : c.toNat < 32 ∨ 126 < c.toNat
      · rw [if_pos c1] at h; cases h
      rw [if_neg c1] at h
      by_cases c2 : c.toNat = 34
      · rw [if_pos c2] at h
        simp only [Option.some.injEq, Prod.mk.injEq] at h
        rw [← h.1]
        simp
      rw [if_neg c2] at h
      by_cases c3 : c.toNat = 92
      · rw [if_pos c3, quoted_esc] at h
        cases hE : escL r with
        | none => rw [hE] at h; cases h
        | some p =>
          obtain ⟨v, k⟩ := p
          rw [hE] at h
          have := escL_le hE
          exact add v (1 + k) (r.drop k) (by rw [List.length_drop]; omega) (by omega) h
      · rw [if_neg c3] at h
        exact add _ 1 r hr (Nat.le_refl _) h
theorem tok_b (l : List UInt8) : (tokL l).2.2.2.1.length ≤ l.length := by
  unfold tokL
  split
  · simp
  split
  · cases hL : quotedL (l.drop 1) with
    | none => simp
    | some p =>
      obtain ⟨b, n⟩ := p
      have h1 := quotedL_b _ _ _ _ (Nat.le_refl _) hL
      have h2 := quotedL_le _ _ _ _ (Nat.le_refl _) hL
      rw [List.length_drop] at h2
      dsimp only
      omega
  split
  · simp
  split
  · split <;> simp
  · split <;> simp
theorem scan_b : ∀ (m c i : Nat) (l : List UInt8), ∀ t ∈ (scanL m c i l).1, t.f3.length ≤ l.length
  | 0, c, i, l, t, ht => by cases ht
  | m + 1, c, i, l, t, ht => by
    have hrl : (l.drop (gapL false l)).length = l.length - gapL false l := List.length_drop
    unfold scanL at ht
    dsimp only at ht
    generalize l.drop (gapL false l) = r at ht hrl
    by_cases hz : r = []
    · rw [if_pos hz] at ht; cases ht
    rw [if_neg hz] at ht
    by_cases hc : c = 4000
    · rw [if_pos hc] at ht; cases ht
    rw [if_neg hc] at ht
    by_cases he : tokE r = 0
    · rw [if_pos he] at ht
      have hdl : (r.drop (tokN r)).length = r.length - tokN r := List.length_drop
      by_cases hx : (scanL m (c + 1) (i + gapL false l + tokN r) (r.drop (tokN r))).2.2 = 0
      · rw [if_pos hx] at ht
        rcases List.mem_cons.mp ht with e | ht
        · rw [e]
          have := tok_b r
          show (tokL r).2.2.2.1.length ≤ l.length
          omega
        · have IH := scan_b m _ _ _ t ht
          omega
      · rw [if_neg hx] at ht; cases ht
    · rw [if_neg he] at ht; cases ht
theorem signs_short : ∀ p ∈ signsL, p.data.toList.length ≤ 2 := by decide
theorem spell_good {kd : Int} {nm : ByteArray} {v : Int} {b : List Int} (h : Good kd nm v b) (hl : b.length ≤ 16384) :
    spellA kd nm v b = arr (spT kd nm v b) ∧ (spT kd nm v b).length ≤ 70000 ∧ v ≤ 9223372036854775807 ∧ (∀ x ∈ b, 0 ≤ x ∧ x < 256) := by
  have arrself : ∀ s : ByteArray, arr s.data.toList = s := fun s => by
    apply ByteArray.ext
    apply Array.ext'
    rfl
  rcases h with ⟨rfl, rfl, v0, v1, rfl⟩ | ⟨rfl, rfl, rfl, hb⟩ | ⟨rfl, rfl, L, rfl, hL, hn, hz, hk⟩ | ⟨rfl, rfl, rfl, hs⟩
  · refine ⟨?_, ?_, by omega, fun x hx => by cases hx⟩
    · show (if v < 0 then ⟨#[]⟩ else arr (Lib.decDigits v.toNat)) = arr (Lib.decDigits v.toNat)
      rw [if_neg (by omega)]
    · show (Lib.decDigits v.toNat).length ≤ 70000
      have := dec_short (u := v.toNat) (by omega)
      omega
  · refine ⟨rfl, ?_, by omega, hb⟩
    show (34 :: (spQ b ++ [34])).length ≤ 70000
    have := spQ_len b
    simp only [List.length_cons, List.length_append, List.length_nil]
    omega
  · have hk4 : ¬ kd = 4 := by
      rcases hk with ⟨e, _⟩ | ⟨e, _⟩
      · omega
      · intro e2
        rw [e2] at e
        split at e <;> omega
    have hk1 : ¬ kd = 1 := by
      rcases hk with ⟨e, _⟩ | ⟨e, _⟩
      · omega
      · intro e2
        rw [e2] at e
        split at e <;> omega
    have hk2 : kd = 2 ∨ kd = 3 ∨ kd = 5 ∨ kd = 6 := by
      rcases hk with ⟨e, _⟩ | ⟨e, _⟩
      · omega
      · split at e <;> omega
    refine ⟨?_, ?_, by omega, fun x hx => by cases hx⟩
    · unfold spellA spT
      rw [if_neg hk4, if_neg hk1, if_pos hk2, if_neg hk4, if_neg hk1, arrself]
    · unfold spT
      rw [if_neg hk4, if_neg hk1]
      have e : (arr L).data.toList = L := by simp [arr]
      rw [e]
      omega
  · refine ⟨?_, ?_, by omega, fun x hx => by cases hx⟩
    · show nm = arr nm.data.toList
      rw [arrself]
    · have := signs_short nm hs
      show nm.data.toList.length ≤ 70000
      omega
/-- what is known of the tokens of a text that Scan takes -/
theorem scan_tokens {s : ByteArray} {L : List S33} {a : Int} (h : scanA s = (L, a, 0)) : ∀ t ∈ L, GoodS t ∧ t.f3.length ≤ 16384 := by
  unfold scanA at h
  split at h
  · have := (Prod.mk.inj (Prod.mk.inj h).2).2
    omega
  · rename_i hs
    split at h
    · rw [← (Prod.mk.inj h).1]
      intro t ht
      refine ⟨scan_goods _ _ _ _ t ht, ?_⟩
      have := scan_b _ _ _ _ t ht
      have hz : s.data.toList.length = s.size := rfl
      omega
    · rename_i hx
      exact absurd (Prod.mk.inj (Prod.mk.inj h).2).2 hx
theorem scan_cap : ∀ (m c i : Nat) (l : List UInt8), c ≤ 4000 → c + (scanL m c i l).1.length ≤ 4000
  | 0, c, i, l, h => by
    show c + 0 ≤ 4000
    omega
  | m + 1, c, i, l, h => by
    unfold scanL
    dsimp only
    generalize l.drop (gapL false l) = r
    by_cases hz : r = []
    · rw [if_pos hz]
      exact h
    rw [if_neg hz]
    by_cases hc : c = 4000
    · rw [if_pos hc]
      exact h
    rw [if_neg hc]
    by_cases he : tokE r = 0
    · rw [if_pos he]
      have IH := scan_cap m (c + 1) (i + gapL false l + tokN r) (r.drop (tokN r)) (by omega)
      by_cases hx : (scanL m (c + 1) (i + gapL false l + tokN r) (r.drop (tokN r))).2.2 = 0
      · rw [if_pos hx]
        simp only [List.length_cons]
        omega
      · rw [if_neg hx]
        exact h
    · rw [if_neg he]
      exact h
theorem spAll_ge : ∀ L : List S33, L.length ≤ (spAll L).length
  | [] => Nat.le_refl _
  | t :: L => by
    have := spAll_ge L
    simp only [spAll, List.length_append, List.length_cons]
    omega
theorem same2_at : ∀ (M L : List S33), Same2 M L → M.length = L.length ∧ ∀ (n : Nat) (t : S33) (r : List S33), L.drop n = t :: r → ∃ u q, M.drop n = u :: q ∧ SameS u t
  | [], [], _ => ⟨rfl, fun n t r h => by simp at h⟩
  | u :: M, t :: L, h => by
    obtain ⟨h1, h2⟩ := h
    obtain ⟨e, g⟩ := same2_at M L h2
    refine ⟨by simp [e], fun n t' r hd => ?_⟩
    cases n with
    | zero =>
      obtain ⟨rfl, rfl⟩ := List.cons.inj hd
      exact ⟨u, M, rfl, h1⟩
    | succ n => exact g n t' r hd
  | [], t :: L, h => h.elim
  | u :: M, [], h => h.elim
theorem back_scan {s : ByteArray} {L : List S33} {a : Int} (h : scanA s = (L, a, 0)) (hl : (spAll L).length ≤ 16384) : ∃ M, scanA (arr (spAll L)) = (M, 0, 0) ∧ Same2 M L := by
  have hG : ∀ t ∈ L, GoodS t := fun t ht => (scan_tokens h t ht).1
  have hc : L.length ≤ 4000 := by
    unfold scanA at h
    split at h
    · have := (Prod.mk.inj (Prod.mk.inj h).2).2
      omega
    · split at h
      · rw [← (Prod.mk.inj h).1]
        have := scan_cap (s.size + 1) 0 0 s.data.toList (by omega)
        omega
      · rename_i hx
        exact absurd (Prod.mk.inj (Prod.mk.inj h).2).2 hx
  have hg : gapL false (spAll L) = 0 := by
    cases L with
    | nil => rfl
    | cons t q => exact (spell_scan (hG t (by simp)) (spAll q)).2.1
  have hge := spAll_ge L
  obtain ⟨M, h1, h2⟩ := scan_back L ((spAll L).length + 1) 0 0 0 (spAll L) hG hg rfl (by omega) (by omega)
  refine ⟨M, ?_, h2⟩
  unfold scanA
  have hd : (arr (spAll L)).data.toList = spAll L := by simp [arr]
  rw [arr_size, hd, if_neg (by omega), h1]
  rfl
theorem SameS.symm {a b : S33} (h : SameS a b) : SameS b a := ⟨h.1.symm, h.2.1.symm, h.2.2.1.symm, h.2.2.2.symm⟩
end Go.Proofs.YtgkbmdlelcbmhaaDoor
