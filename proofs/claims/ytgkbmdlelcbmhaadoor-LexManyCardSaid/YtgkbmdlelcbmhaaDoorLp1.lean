/- lex, the plain law: what rounds tell from some round on; the gap between tokens, over the list of bytes. -/
import Derived.Test.YtgkbmdlelcbmhaaDoorPLexx2
import Derived.KernelRfl
namespace Go.Proofs.YtgkbmdlelcbmhaaDoor
open Go.RowKit Go.Proofs.YtgkbmdlelcbmhaaDoor.PLex Go.Proofs.YtgkbmdlelcbmhaaDoorW.PrintWords
set_option linter.all false

/-- From some round on f tells a. -/
def Ev {α : Type} (f : Nat → Option α) (a : α) : Prop := ∃ k0, ∀ k, k0 ≤ k → f k = some a
theorem Ev.of {α : Type} {f : Nat → Option α} {a : α} (hm : ∀ k, LeO (f k) (f (k + 1))) {k : Nat} (h : f k = some a) : Ev f a := by
  refine ⟨k, fun j hj => ?_⟩
  induction hj with
  | refl => exact h
  | step _ ih => exact hm _ _ ih
theorem Ev.ex {α : Type} {f : Nat → Option α} {a : α} (h : Ev f a) : ∃ k, f k = some a := by
  obtain ⟨k0, h⟩ := h
  exact ⟨k0, h k0 (Nat.le_refl _)⟩
theorem Ev.succ {α : Type} {f : Nat → Option α} {a : α} (h : Ev (fun k => f (k + 1)) a) : Ev f a := by
  obtain ⟨k0, h⟩ := h
  refine ⟨k0 + 1, fun k hk => ?_⟩
  obtain ⟨j, rfl⟩ : ∃ j, k = j + 1 := ⟨k - 1, by omega⟩
  exact h j (by omega)
theorem Ev.pure {α : Type} (a : α) : Ev (fun _ => some a) a := ⟨0, fun _ _ => rfl⟩
theorem Ev.bind {α β : Type} {f : Nat → Option α} {g : Nat → α → Option β} {a : α} {b : β} (h : Ev f a) (h2 : Ev (fun k => g k a) b) : Ev (fun k => (f k).bind (g k)) b := by
  obtain ⟨k1, h⟩ := h
  obtain ⟨k2, h2⟩ := h2
  refine ⟨max k1 k2, fun k hk => ?_⟩
  show (f k).bind (g k) = some b
  rw [h k (by omega)]
  exact h2 k (by omega)
theorem Ev.cast {α : Type} {f g : Nat → Option α} {a : α} (h : Ev f a) (e : ∀ k, g k = f k) : Ev g a := by
  obtain ⟨k0, h⟩ := h
  exact ⟨k0, fun k hk => (e k).trans (h k hk)⟩
theorem Ev.iteT {α : Type} {c : Prop} [Decidable c] {f g : Nat → Option α} {a : α} (hc : c) (h : Ev f a) : Ev (fun k => if c then f k else g k) a := h.cast fun k => if_pos hc
theorem Ev.iteF {α : Type} {c : Prop} [Decidable c] {f g : Nat → Option α} {a : α} (hc : ¬ c) (h : Ev g a) : Ev (fun k => if c then f k else g k) a := h.cast fun k => if_neg hc

theorem drop_cons {s : ByteArray} {i : Nat} {c : UInt8} {r : List UInt8} (h : s.data.toList.drop i = c :: r) : i < s.size ∧ bt s (i : Int) = (c.toNat : Int) ∧ s.data.toList.drop (i + 1) = r := by
  have hl : i < s.data.toList.length := by
    rcases Nat.lt_or_ge i s.data.toList.length with h1 | h1
    · exact h1
    · rw [List.drop_eq_nil_of_le h1] at h; cases h
  have h2 := List.drop_eq_getElem_cons hl
  rw [h] at h2
  obtain ⟨e1, e2⟩ := List.cons.inj h2
  have hs : i < s.size := hl
  refine ⟨hs, ?_, e2.symm⟩
  unfold bt
  rw [dif_pos (show (i : Int).toNat < s.size from hs), e1]
  rfl
theorem drop_nil {s : ByteArray} {i : Nat} (h : s.data.toList.drop i = []) : s.size ≤ i := by
  have := List.drop_eq_nil_iff.mp h
  exact this
theorem wrapN {i : Nat} (h : i ≤ 1000000) : wrap64 ((i : Int) + 1) = ((i + 1 : Nat) : Int) := by
  unfold wrap64
  omega

/-- What is skipped between tokens; b: within a note. -/
def gapL : Bool → List UInt8 → Nat
  | _, [] => 0
  | true, c :: r => if c.toNat = 10 then gapL false r + 1 else gapL true r + 1
  | false, c :: r => if c.toNat = 37 then gapL true r + 1 else if c.toNat = 32 ∨ c.toNat = 9 ∨ c.toNat = 10 ∨ c.toNat = 13 then gapL false r + 1 else 0
theorem skip_ev (s : ByteArray) (hs : s.size ≤ 16384) : ∀ (l : List UInt8) (b : Bool) (i : Nat), s.data.toList.drop i = l → i ≤ s.size →
    Ev (fun k => if b = true then lex_scanner_skip.l1 k s i else lex_scanner_skip.l0 k s i) (s, ((i + gapL b l : Nat) : Int))
  | [], b, i, h, hi => by
    have hz := drop_nil h
    have h0 : Ev (fun k => lex_scanner_skip.l0 k s i) (s, ((i + 0 : Nat) : Int)) := by
      refine Ev.succ ?_
      simp only [lex_scanner_skip.l0]
      exact Ev.iteF (by omega) (Ev.pure _)
    cases b with
    | false => exact h0
    | true =>
      refine Ev.iteT rfl ?_
      refine Ev.succ ?_
      simp only [lex_scanner_skip.l1]
      exact Ev.iteF (by omega) h0
  | c :: r, b, i, h, hi => by
    obtain ⟨h1, h2, h3⟩ := drop_cons h
    have w1 : wrap64 ((i : Int) + 1) = ((i + 1 : Nat) : Int) := wrapN (by omega)
    have IHf := skip_ev s hs r false (i + 1) h3 (by omega)
    have IHt := skip_ev s hs r true (i + 1) h3 (by omega)
    simp only [Bool.false_eq_true, if_false, if_true] at IHf IHt
    have e1 : ∀ n, ((i + 1 + n : Nat) : Int) = ((i + (n + 1) : Nat) : Int) := fun n => by omega
    rw [e1] at IHf IHt
    have hl0 : Ev (fun k => lex_scanner_skip.l0 k s i) (s, ((i + gapL false (c :: r) : Nat) : Int)) := by
      refine Ev.succ ?_
      simp only [lex_scanner_skip.l0, h2, w1, gapL]
      refine Ev.iteT (by omega) (Ev.iteT (by omega) ?_)
      by_cases c1 : c.toNat = 37
      · rw [if_pos c1]
        refine Ev.iteT (by omega) ?_
        refine Ev.succ ?_
        simp only [lex_scanner_skip.l1, h2, w1]
        exact Ev.iteT (by omega) (Ev.iteT (by omega) (Ev.iteF (by omega) IHt))
      rw [if_neg c1]
      refine Ev.iteF (by omega) ?_
      by_cases c2 : c.toNat = 32
      · rw [if_pos (by omega)]
        exact Ev.iteT (by omega) IHf
      refine Ev.iteF (by omega) ?_
      by_cases c3 : c.toNat = 9
      · rw [if_pos (by omega)]
        exact Ev.iteT (by omega) IHf
      refine Ev.iteF (by omega) ?_
      by_cases c4 : c.toNat = 10
      · rw [if_pos (by omega)]
        exact Ev.iteT (by omega) IHf
      refine Ev.iteF (by omega) ?_
      by_cases c5 : c.toNat = 13
      · rw [if_pos (by omega)]
        exact Ev.iteT (by omega) IHf
      rw [if_neg (by omega)]
      exact Ev.iteF (by omega) (Ev.pure _)
    cases b with
    | false => exact hl0
    | true =>
      refine Ev.iteT rfl ?_
      refine Ev.succ ?_
      simp only [lex_scanner_skip.l1, h2, w1]
      refine Ev.iteT (by omega) (Ev.iteT (by omega) ?_)
      by_cases c1 : c.toNat = 10
      · have e : gapL true (c :: r) = gapL false (c :: r) := by simp [gapL, c1]
        rw [e]
        exact Ev.iteT (by omega) hl0
      · have e : gapL true (c :: r) = gapL true r + 1 := by simp [gapL, c1]
        rw [e]
        exact Ev.iteF (by omega) IHt
end Go.Proofs.YtgkbmdlelcbmhaaDoor
