/- lex, the plain law: the whole scan, over the list of bytes that is still to be read. -/
import Derived.Test.YtgkbmdlelcbmhaaDoorLp3
namespace Go.Proofs.YtgkbmdlelcbmhaaDoor
open Go.RowKit Go.Proofs.YtgkbmdlelcbmhaaDoor.PLex Go.Proofs.YtgkbmdlelcbmhaaDoorW.PrintWords
set_option linter.all false

def tokS (i : Nat) (l : List UInt8) : S33 := ⟨(tokL l).1, (tokL l).2.1, (tokL l).2.2.1, (tokL l).2.2.2.1, (i : Int)⟩
def tokE (l : List UInt8) : Int := (tokL l).2.2.2.2.1
def tokN (l : List UInt8) : Nat := (tokL l).2.2.2.2.2
/-- The scan from place i on, where l is still to be read and c tokens are read already: the tokens, the place, the error; m: fuel. -/
def scanL : Nat → Nat → Nat → List UInt8 → List S33 × Int × Int
  | 0, _, _, _ => ([], 0, 0)
  | m + 1, c, i, l =>
    let r := l.drop (gapL false l)
    let j := i + gapL false l
    if r = [] then ([], 0, 0)
    else if c = 4000 then ([], (j : Int), 155)
    else if tokE r = 0 then
      let x := scanL m (c + 1) (j + tokN r) (r.drop (tokN r))
      if x.2.2 = 0 then (tokS j r :: x.1, x.2) else ([], x.2)
    else ([], (j : Int), tokE r)
theorem gapL_le : ∀ (l : List UInt8) (b : Bool), gapL b l ≤ l.length
  | [], b => by cases b <;> simp [gapL]
  | c :: r, b => by
    have h1 := gapL_le r true
    have h2 := gapL_le r false
    cases b <;> simp only [gapL, List.length_cons] <;> (repeat' split) <;> omega
theorem runL_le (p : Int → Bool) (l : List UInt8) : runL p l ≤ l.length := (List.takeWhile_prefix _).length_le
theorem runL_pos {p : Int → Bool} {l : List UInt8} (h : p (hereL l) = true) (hl : l ≠ []) : 1 ≤ runL p l := by
  cases l with
  | nil => exact absurd rfl hl
  | cons c r =>
    have h : p (c.toNat : Int) = true := h
    simp [runL, h]
theorem quotedL_le : ∀ (n : Nat) (l : List UInt8) (b : List Int) (m : Nat), l.length ≤ n → quotedL l = some (b, m) → m ≤ l.length := by
  intro n
  induction n with
  | zero =>
    intro l b m hn h
    cases l with
    | nil => simp [quotedL] at h
    | cons c r => simp at hn
  | succ n ih =>
    intro l b m hn h
    cases l with
    | nil => simp [quotedL] at h
    | cons c r =>
      have hr : r.length ≤ n := by simpa using hn
      have add : ∀ (v : Int) (k : Nat) (l' : List UInt8), l'.length ≤ n → l'.length + k ≤ r.length + 1 → addB v k (quotedL l') = some (b, m) → m ≤ (c :: r).length := by
        intro v k l' h1 h2 h3
        cases hq : quotedL l' with
        | none => rw [hq] at h3; cases h3
        | some p =>
          obtain ⟨b', m'⟩ := p
          rw [hq] at h3
          have := ih l' b' m' h1 hq
          simp only [addB, Option.some.injEq, Prod.mk.injEq] at h3
          simp only [List.length_cons]
          omega
      unfold quotedL at h
      by_cases c1 : c.toNat < 32 ∨ 126 < c.toNat
      · rw [if_pos c1] at h; cases h
      rw [if_neg c1] at h
      by_cases c2 : c.toNat = 34
      · rw [if_pos c2] at h
        simp only [Option.some.injEq, Prod.mk.injEq] at h
        simp only [List.length_cons]
        omega
      rw [if_neg c2] at h
      by_cases c3 : c.toNat = 92
      · rw [if_pos c3, quoted_esc] at h
        cases hE : escL r with
        | none => rw [hE] at h; cases h
        | some p =>
          obtain ⟨v, k⟩ := p
          rw [hE] at h
          have := escL_le hE
          exact add v (1 + k) (r.drop k) (by rw [List.length_drop]; omega) (by rw [List.length_drop]; omega) h
      · rw [if_neg c3] at h
        exact add _ 1 r hr (by omega) h
theorem signAt_le {l : List UInt8} {p : ByteArray} (h : signAt (arr l) = some p) : 1 ≤ p.size ∧ p.size ≤ l.length := by
  unfold signAt at h
  have h1 := List.find?_some h
  have h2 := List.mem_of_find?_eq_some h
  constructor
  · have : ∀ q ∈ signsL, 1 ≤ q.size := by decide
    exact this p h2
  · have h3 : p.data.toList <+: (arr l).data.toList := by
      exact List.isPrefixOf_iff_prefix.mp h1
    have := h3.length_le
    simpa [arr] using this
/-- A good token takes at least one byte, and no more than there are. -/
theorem tokN_ok {l : List UInt8} (hl : l ≠ []) (h : tokE l = 0) : 1 ≤ tokN l ∧ tokN l ≤ l.length := by
  have hlen : 1 ≤ l.length := by
    cases l with
    | nil => exact absurd rfl hl
    | cons c r => simp
  unfold tokE at h
  unfold tokN
  unfold tokL at h ⊢
  by_cases hd : digB (hereL l) = true
  · rw [if_pos hd]
    exact ⟨runL_pos hd hl, runL_le _ _⟩
  rw [if_neg hd] at h ⊢
  by_cases hq : hereL l = 34
  · rw [if_pos hq] at h ⊢
    cases hL : quotedL (l.drop 1) with
    | none => rw [hL] at h; simp at h
    | some p =>
      obtain ⟨b, n⟩ := p
      have := quotedL_le _ _ _ _ (Nat.le_refl _) hL
      rw [List.length_drop] at this
      dsimp only
      omega
  rw [if_neg hq] at h ⊢
  by_cases hg : greB (hereL l) = true
  · rw [if_pos hg]
    exact ⟨runL_pos (by simp [namB, hg]) hl, runL_le _ _⟩
  rw [if_neg hg] at h ⊢
  by_cases hm : smaB (hereL l) = true
  · rw [if_pos hm]
    have : 1 ≤ runL namB l ∧ runL namB l ≤ l.length := ⟨runL_pos (by simp [namB, hm]) hl, runL_le _ _⟩
    split <;> exact this
  rw [if_neg hm] at h ⊢
  cases hS : signAt (arr l) with
  | none => rw [hS] at h; simp at h
  | some p => exact signAt_le hS
theorem scan_ev (s : ByteArray) (hs : s.size ≤ 16384) : ∀ (m : Nat) (l : List UInt8) (i : Nat) (acc : List S33), l.length < m → s.data.toList.drop i = l → i ≤ s.size → acc.length ≤ 4000 →
    Ev (fun k => lex_Scan.l0 k s acc s (i : Int)) (if (scanL m acc.length i l).2.2 = 0 then (acc ++ (scanL m acc.length i l).1, 0, 0) else ([], (scanL m acc.length i l).2)) := by
  intro m
  induction m with
  | zero => intro l i acc hm; omega
  | succ m ih =>
    intro l i acc hm h hi ha
    have hlen : s.size = i + l.length := by
      have e := congrArg List.length h
      simp only [List.length_drop] at e
      have : s.data.toList.length = s.size := rfl
      omega
    have hgl := gapL_le l false
    have hsk := skip_ev s hs l false i h hi
    simp only [Bool.false_eq_true, if_false] at hsk
    have hr : s.data.toList.drop (i + gapL false l) = l.drop (gapL false l) := by rw [← h, List.drop_drop]
    have hrl : (l.drop (gapL false l)).length = l.length - gapL false l := List.length_drop
    generalize hj : i + gapL false l = j at hsk hr
    generalize hrr : l.drop (gapL false l) = r at hr hrl
    have step : ∀ a, Ev (fun k => if (j : Int) ≥ (s.size : Int) then (some (acc, 0, 0)) else (if (acc.length : Int) = 4000 then (some (([] : List (S33)), (j : Int), 155)) else ((lex_scanner_token.f k s (j : Int)).bind fun bt125 => (if bt125.2.2.2.2.2.1 = 0 then (if acc.length < 2199023255552 then (lex_Scan.l0 k s (acc ++ [(⟨bt125.1, bt125.2.1, bt125.2.2.1, bt125.2.2.2.1, bt125.2.2.2.2.1⟩ : S33)]) bt125.2.2.2.2.2.2.1 bt125.2.2.2.2.2.2.2) else (none)) else (some (([] : List (S33)), (j : Int), bt125.2.2.2.2.2.1)))))) a → Ev (fun k => lex_Scan.l0 k s acc s (i : Int)) a := by
      intro a ha
      refine Ev.succ ?_
      simp only [lex_Scan.l0]
      exact Ev.bind (hsk.cast fun k => by unfold lex_scanner_skip.f; rfl) ha
    apply step
    unfold scanL
    simp only [hj, hrr]
    by_cases hz : r = []
    · rw [if_pos hz]
      subst hz
      simp only [if_true, List.append_nil]
      simp at hrl
      exact Ev.iteT (by omega) (Ev.pure _)
    rw [if_neg hz]
    have hpos : 1 ≤ r.length := by
      cases r with
      | nil => exact absurd rfl hz
      | cons c q => simp
    refine Ev.iteF (by omega) ?_
    by_cases hc : acc.length = 4000
    · rw [if_pos hc]
      exact Ev.iteT (by omega) (Ev.pure _)
    rw [if_neg hc]
    refine Ev.iteF (by omega) ?_
    have T := token_ev s hs r j hr (by omega)
    have T : (tokE r = 0 → Ev (fun k => lex_scanner_token.f k s (j : Int)) ((tokL r).1, (tokL r).2.1, (tokL r).2.2.1, (tokL r).2.2.2.1, (j : Int), 0, s, ((j + tokN r : Nat) : Int))) ∧
        (tokE r ≠ 0 → ∃ s2 j2, Ev (fun k => lex_scanner_token.f k s (j : Int)) ((tokL r).1, (tokL r).2.1, (tokL r).2.2.1, (tokL r).2.2.2.1, (j : Int), tokE r, s2, j2)) := T
    by_cases he : tokE r = 0
    · rw [if_pos he]
      have hn := tokN_ok hz he
      refine Ev.bind (T.1 he) (Ev.iteT rfl (Ev.iteT (by omega) ?_))
      have IH := ih (r.drop (tokN r)) (j + tokN r) (acc ++ [tokS j r]) (by rw [List.length_drop]; omega) (by rw [← hr, List.drop_drop]) (by omega) (by simp; omega)
      simp only [List.length_append, List.length_singleton] at IH
      by_cases hx : (scanL m (acc.length + 1) (j + tokN r) (r.drop (tokN r))).2.2 = 0
      · rw [if_pos hx] at IH
        rw [if_pos hx]
        rw [if_pos hx]
        rw [List.append_assoc] at IH
        exact IH
      · rw [if_neg hx] at IH
        rw [if_neg hx]
        rw [if_neg hx]
        exact IH
    · rw [if_neg he]
      obtain ⟨s2, j2, T2⟩ := T.2 he
      rw [if_neg he]
      exact Ev.bind T2 (Ev.iteF he (Ev.pure _))
/-- What Scan answers. -/
def scanA (s : ByteArray) : List S33 × Int × Int :=
  if 16384 < s.size then ([], 0, 150)
  else if (scanL (s.size + 1) 0 0 s.data.toList).2.2 = 0 then ((scanL (s.size + 1) 0 0 s.data.toList).1, 0, 0) else ([], (scanL (s.size + 1) 0 0 s.data.toList).2)
theorem scan_all (s : ByteArray) : Ev (fun k => lex_Scan.f k s) (scanA s) := by
  unfold scanA
  by_cases h : 16384 < s.size
  · rw [if_pos h]
    refine (Ev.pure _).cast fun k => ?_
    unfold lex_Scan.f
    rw [if_pos (by omega)]
  · rw [if_neg h]
    have := scan_ev s (by omega) (s.size + 1) s.data.toList 0 [] (Nat.lt_succ_self _) (by simp) (by omega) (by simp)
    simp only [List.length_nil, List.nil_append] at this
    refine this.cast fun k => ?_
    unfold lex_Scan.f
    rw [if_neg (by omega)]
    rfl
end Go.Proofs.YtgkbmdlelcbmhaaDoor
