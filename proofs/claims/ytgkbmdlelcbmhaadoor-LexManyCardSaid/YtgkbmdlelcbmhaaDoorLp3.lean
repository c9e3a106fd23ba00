/- lex, the plain law: one token, over the list of bytes; the scan as a total function. -/
import Derived.Test.YtgkbmdlelcbmhaaDoorLp2
namespace Go.Proofs.YtgkbmdlelcbmhaaDoor
open Go.RowKit Go.Proofs.YtgkbmdlelcbmhaaDoor.PLex Go.Proofs.YtgkbmdlelcbmhaaDoorW.PrintWords
set_option linter.all false

def runL (p : Int → Bool) (l : List UInt8) : Nat := (l.takeWhile fun c => p (c.toNat : Int)).length
def hereL : List UInt8 → Int
  | [] => 0
  | c :: _ => (c.toNat : Int)
def arr (l : List UInt8) : ByteArray := ⟨l.toArray⟩
theorem ext_eq {s : ByteArray} {i n : Nat} {l : List UInt8} (h : s.data.toList.drop i = l) : s.extract i (i + n) = arr (l.take n) := by
  apply ByteArray.ext
  apply Array.ext'
  subst h
  simp [arr, ByteArray.data_extract, List.take_drop]
theorem here_eq {s : ByteArray} {i : Nat} {l : List UInt8} (h : s.data.toList.drop i = l) : hereB s (i : Int) = hereL l := by
  cases l with
  | nil =>
    have := drop_nil h
    unfold hereB
    rw [if_neg (by omega)]
    rfl
  | cons c r =>
    obtain ⟨h1, h2, h3⟩ := drop_cons h
    unfold hereB
    rw [if_pos (by omega), h2]
    rfl
def tokIntL (l : List UInt8) : Int × Int :=
  match Lib.parseIntB 64 (l.take (runL digB l)) with
  | .ok v => if 4611686018427387903 < v ∨ smaB (hereL (l.drop (runL digB l))) = true ∨ greB (hereL (l.drop (runL digB l))) = true then (0, 152) else (v, 0)
  | _ => (0, 152)
def tokL (l : List UInt8) : Int × ByteArray × Int × List Int × Int × Nat :=
  if digB (hereL l) = true then (1, noS, (tokIntL l).1, [], (tokIntL l).2, runL digB l)
  else if hereL l = 34 then
    match quotedL (l.drop 1) with
    | some (b, n) => (4, noS, 0, b, 0, 1 + n)
    | none => (0, noS, 0, [], 154, 0)
  else if greB (hereL l) = true then (3, arr (l.take (runL namB l)), 0, [], if 32 < runL namB l then 153 else 0, runL namB l)
  else if smaB (hereL l) = true then
    if 32 < runL namB l then (0, arr (l.take (runL namB l)), 0, [], 153, runL namB l)
    else (if lexWord (arr (l.take (runL namB l))) = true then 6 else 2, arr (l.take (runL namB l)), 0, [], 0, runL namB l)
  else match signAt (arr l) with
    | some p => (5, p, 0, [], 0, p.size)
    | none => (0, noS, 0, [], 151, 0)
theorem take_all {s : ByteArray} {i : Nat} {l : List UInt8} (h : s.data.toList.drop i = l) (hi : i ≤ s.size) : s.extract i s.size = arr l := by
  have hl : l.length = s.size - i := by
    rw [← h, List.length_drop]
    rfl
  have e := ext_eq (n := s.size - i) h
  rw [show i + (s.size - i) = s.size by omega, List.take_of_length_le (by omega)] at e
  exact e
theorem token_ev (s : ByteArray) (hs : s.size ≤ 16384) (l : List UInt8) (i : Nat) (h : s.data.toList.drop i = l) (hi : i < s.size) :
    match tokL l with
    | (kd, nm, v, b, e, n) => (e = 0 → Ev (fun k => lex_scanner_token.f k s (i : Int)) (kd, nm, v, b, (i : Int), 0, s, ((i + n : Nat) : Int))) ∧
        (e ≠ 0 → ∃ s2 j2, Ev (fun k => lex_scanner_token.f k s (i : Int)) (kd, nm, v, b, (i : Int), e, s2, j2)) := by
  have hb : bt s (i : Int) = hereL l := by
    have := here_eq h
    unfold hereB at this
    rw [if_pos (by omega)] at this
    exact this
  have F : ∀ k, lex_scanner_token.f k s (i : Int) = tokWith (lex_scanner_quoted.f k) s i := by
    intro k
    unfold lex_scanner_token.f
    rw [if_pos (by omega)]
    rfl
  have hrun : ∀ p, runLen p s i = runL p l := by
    intro p
    unfold runLen runL
    rw [h]
  have hall := take_all h (by omega)
  have hname : s.extract i (i + runL namB l) = arr (l.take (runL namB l)) := ext_eq h
  have hnext : s.data.toList.drop (i + runL digB l) = l.drop (runL digB l) := by rw [← h, List.drop_drop]
  have hint : tokInt s i = tokIntL l := by
    unfold tokInt tokIntL
    rw [hrun, ext_eq h, here_eq hnext]
    rfl
  unfold tokL
  by_cases hd : digB (hereL l) = true
  · rw [if_pos hd]
    dsimp only
    have G : ∀ k, lex_scanner_token.f k s (i : Int) = some (1, noS, (tokIntL l).1, [], (i : Int), (tokIntL l).2, s, ((i + runL digB l : Nat) : Int)) := by
      intro k
      rw [F]
      unfold tokWith
      rw [hb, if_pos hd, hint, hrun]
    constructor
    · intro e0
      have := (Ev.pure _).cast G
      rw [e0] at this
      exact this
    · intro e0
      exact ⟨_, _, (Ev.pure _).cast G⟩
  rw [if_neg hd]
  by_cases hq : hereL l = 34
  · rw [if_pos hq]
    have hd1 : s.data.toList.drop (i + 1) = l.drop 1 := by rw [← h, List.drop_drop]
    have w1 : wrap64 ((i : Int) + 1) = ((i + 1 : Nat) : Int) := wrapN (by omega)
    have Q := quoted_ev s hs (l.drop 1).length (l.drop 1) (i + 1) [] (Nat.le_refl _) hd1 (by omega) (by simp)
    have QQ : ∀ a, Ev (fun k => lex_scanner_quoted.l0 k [] s ((i + 1 : Nat) : Int)) a → Ev (fun k => lex_scanner_quoted.f k s (i : Int)) a := by
      intro a ha
      exact ha.cast fun k => by unfold lex_scanner_quoted.f; rw [w1]
    have G : ∀ k, lex_scanner_token.f k s (i : Int) = (lex_scanner_quoted.f k s (i : Int)).bind fun b => if b.2.1 = true then some (4, noS, 0, b.1, (i : Int), 0, b.2.2.1, b.2.2.2) else some (0, noS, 0, [], (i : Int), 154, b.2.2.1, b.2.2.2) := by
      intro k
      rw [F]
      unfold tokWith
      rw [hb, if_neg hd, if_pos hq]
    cases hL : quotedL (l.drop 1) with
    | none =>
      rw [hL] at Q
      obtain ⟨s2, j2, Q⟩ := Q
      exact ⟨fun e0 => by simp at e0, fun _ => ⟨s2, j2, (Ev.bind (QQ _ Q) (Ev.iteF (by simp) (Ev.pure _))).cast G⟩⟩
    | some p =>
      obtain ⟨b, n⟩ := p
      rw [hL] at Q
      have Q : Ev _ _ := Q
      refine ⟨fun _ => ?_, fun e0 => absurd rfl e0⟩
      have := (Ev.bind (QQ _ Q) (Ev.iteT rfl (Ev.pure _))).cast G
      rw [List.nil_append, show i + 1 + n = i + (1 + n) by omega] at this
      exact this
  rw [if_neg hq]
  by_cases hg : greB (hereL l) = true
  · rw [if_pos hg]
    dsimp only
    have G : ∀ k, lex_scanner_token.f k s (i : Int) = some (3, arr (l.take (runL namB l)), 0, [], (i : Int), if 32 < runL namB l then 153 else 0, s, ((i + runL namB l : Nat) : Int)) := by
      intro k
      rw [F]
      unfold tokWith
      rw [hb, if_neg hd, if_neg hq, if_pos hg, hrun, hname]
    constructor
    · intro e0
      have := (Ev.pure _).cast G
      rw [e0] at this
      exact this
    · intro e0
      exact ⟨_, _, (Ev.pure _).cast G⟩
  rw [if_neg hg]
  by_cases hm : smaB (hereL l) = true
  · rw [if_pos hm]
    by_cases hl : 32 < runL namB l
    · rw [if_pos hl]
      refine ⟨fun e0 => by simp at e0, fun _ => ⟨s, ((i + runL namB l : Nat) : Int), (Ev.pure _).cast fun k => ?_⟩⟩
      rw [F]
      unfold tokWith
      rw [hb, if_neg hd, if_neg hq, if_neg hg, if_pos hm, hrun, hname, if_pos hl]
    · rw [if_neg hl]
      refine ⟨fun _ => (Ev.pure _).cast fun k => ?_, fun e0 => absurd rfl e0⟩
      rw [F]
      unfold tokWith
      rw [hb, if_neg hd, if_neg hq, if_neg hg, if_pos hm, hrun, hname, if_neg hl]
  rw [if_neg hm]
  have G : ∀ k, lex_scanner_token.f k s (i : Int) = match signAt (arr l) with
    | some p => some (5, p, 0, [], (i : Int), 0, s, ((i + p.size : Nat) : Int))
    | none => some (0, noS, 0, [], (i : Int), 151, s, (i : Int)) := by
    intro k
    rw [F]
    unfold tokWith
    rw [hb, if_neg hd, if_neg hq, if_neg hg, if_neg hm, hall]
    rfl
  cases hS : signAt (arr l) with
  | none =>
    rw [hS] at G
    exact ⟨fun e0 => by simp at e0, fun _ => ⟨_, _, (Ev.pure _).cast G⟩⟩
  | some p =>
    rw [hS] at G
    exact ⟨fun _ => (Ev.pure _).cast G, fun e0 => absurd rfl e0⟩
end Go.Proofs.YtgkbmdlelcbmhaaDoor
