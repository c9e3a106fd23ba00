/- lex, the plain law: what rounds tell from some round on; the gap between tokens, over the list of bytes. lex, the plain law: a text within quotes, over the list of bytes. lex, the plain law: one token, over the list of bytes; the scan as a total function. lex, the plain law: the whole scan, over the list of bytes that is still to be read. gram: of what a scan gives: how many tokens, how many bytes they have, and which have any. gram: two texts one behind the other: their tokens, or that they are too many. -/
import Derived.Test.YtejidddjkngoiaaDoorPGramx2
import Derived.KernelRfl
import Derived.Test.YtejidddjkngoiaaDoorGmS
namespace Go.Proofs.YtejidddjkngoiaaDoor
open Go.RowKit Go.Proofs.YtejidddjkngoiaaDoor.PGram Go.Proofs.YtejidddjkngoiaaDoorW.PrintWords
set_option linter.all false

/-- From some round on f tells a. -/
def Ev {α : Type} (f : Nat → Option α) (a : α) : Prop := ∃ k0, ∀ k, k0 ≤ k → f k = some a
theorem Ev.of {α : Type} {f : Nat → Option α} {a : α} (hm : ∀ k, LeO (f k) (f (k + 1))) {k : Nat} (h : f k = some a) : Ev f a := by
  refine ⟨k, fun j hj => ?_⟩
  induction hj with
  | refl => exact h
  | step _ ih => exact hm _ _ ih
theorem Ev.ex {α : Type} {f : Nat → Option α} {a : α} (h : Ev f a) : ∃ k, f k = some a := by
  obtain ⟨k0, h⟩ := h
  exact ⟨k0, h k0 (Nat.le_refl _)⟩
theorem Ev.succ {α : Type} {f : Nat → Option α} {a : α} (h : Ev (fun k => f (k + 1)) a) : Ev f a := by
  obtain ⟨k0, h⟩ := h
  refine ⟨k0 + 1, fun k hk => ?_⟩
  obtain ⟨j, rfl⟩ : ∃ j, k = j + 1 := ⟨k - 1, by omega⟩
  exact h j (by omega)
theorem Ev.pure {α : Type} (a : α) : Ev (fun _ => some a) a := ⟨0, fun _ _ => rfl⟩
theorem Ev.bind {α β : Type} {f : Nat → Option α} {g : Nat → α → Option β} {a : α} {b : β} (h : Ev f a) (h2 : Ev (fun k => g k a) b) : Ev (fun k => (f k).bind (g k)) b := by
  obtain ⟨k1, h⟩ := h
  obtain ⟨k2, h2⟩ := h2
  refine ⟨max k1 k2, fun k hk => ?_⟩
  show (f k).bind (g k) = some b
  rw [h k (by omega)]
  exact h2 k (by omega)
theorem Ev.cast {α : Type} {f g : Nat → Option α} {a : α} (h : Ev f a) (e : ∀ k, g k = f k) : Ev g a := by
  obtain ⟨k0, h⟩ := h
  exact ⟨k0, fun k hk => (e k).trans (h k hk)⟩
theorem Ev.iteT {α : Type} {c : Prop} [Decidable c] {f g : Nat → Option α} {a : α} (hc : c) (h : Ev f a) : Ev (fun k => if c then f k else g k) a := h.cast fun k => if_pos hc
theorem Ev.iteF {α : Type} {c : Prop} [Decidable c] {f g : Nat → Option α} {a : α} (hc : ¬ c) (h : Ev g a) : Ev (fun k => if c then f k else g k) a := h.cast fun k => if_neg hc

theorem drop_cons {s : ByteArray} {i : Nat} {c : UInt8} {r : List UInt8} (h : s.data.toList.drop i = c :: r) : i < s.size ∧ bt s (i : Int) = (c.toNat : Int) ∧ s.data.toList.drop (i + 1) = r := by
  have hl : i < s.data.toList.length := by
    rcases Nat.lt_or_ge i s.data.toList.length with h1 | h1
    · exact h1
    · rw [List.drop_eq_nil_of_le h1] at h; cases h
  have h2 := List.drop_eq_getElem_cons hl
  rw [h] at h2
  obtain ⟨e1, e2⟩ := List.cons.inj h2
  have hs : i < s.size := hl
  refine ⟨hs, ?_, e2.symm⟩
  unfold bt
  rw [dif_pos (show (i : Int).toNat < s.size from hs), e1]
  rfl
theorem drop_nil {s : ByteArray} {i : Nat} (h : s.data.toList.drop i = []) : s.size ≤ i := by
  have := List.drop_eq_nil_iff.mp h
  exact this
theorem wrapN {i : Nat} (h : i ≤ 1000000) : wrap64 ((i : Int) + 1) = ((i + 1 : Nat) : Int) := by
  unfold wrap64
  omega

/-- What is skipped between tokens; b: within a note. -/
def gapL : Bool → List UInt8 → Nat
  | _, [] => 0
  | true, c :: r => if c.toNat = 10 then gapL false r + 1 else gapL true r + 1
  | false, c :: r => if c.toNat = 37 then gapL true r + 1 else if c.toNat = 32 ∨ c.toNat = 9 ∨ c.toNat = 10 ∨ c.toNat = 13 then gapL false r + 1 else 0
theorem skip_ev (s : ByteArray) (hs : s.size ≤ 16384) : ∀ (l : List UInt8) (b : Bool) (i : Nat), s.data.toList.drop i = l → i ≤ s.size →
    Ev (fun k => if b = true then lex_scanner_skip.l1 k s i else lex_scanner_skip.l0 k s i) (s, ((i + gapL b l : Nat) : Int))
  | [], b, i, h, hi => by
    have hz := drop_nil h
    have h0 : Ev (fun k => lex_scanner_skip.l0 k s i) (s, ((i + 0 : Nat) : Int)) := by
      refine Ev.succ ?_
      simp only [lex_scanner_skip.l0]
      exact Ev.iteF (by omega) (Ev.pure _)
    cases b with
    | false => exact h0
    | true =>
      refine Ev.iteT rfl ?_
      refine Ev.succ ?_
      simp only [lex_scanner_skip.l1]
      exact Ev.iteF (by omega) h0
  | c :: r, b, i, h, hi => by
    obtain ⟨h1, h2, h3⟩ := drop_cons h
    have w1 : wrap64 ((i : Int) + 1) = ((i + 1 : Nat) : Int) := wrapN (by omega)
    have IHf := skip_ev s hs r false (i + 1) h3 (by omega)
    have IHt := skip_ev s hs r true (i + 1) h3 (by omega)
    simp only [Bool.false_eq_true, if_false, if_true] at IHf IHt
    have e1 : ∀ n, ((i + 1 + n : Nat) : Int) = ((i + (n + 1) : Nat) : Int) := fun n => by omega
    rw [e1] at IHf IHt
    have hl0 : Ev (fun k => lex_scanner_skip.l0 k s i) (s, ((i + gapL false (c :: r) : Nat) : Int)) := by
      refine Ev.succ ?_
      simp only [lex_scanner_skip.l0, h2, w1, gapL]
      refine Ev.iteT (by omega) (Ev.iteT (by omega) ?_)
      by_cases c1 : c.toNat = 37
      · rw [if_pos c1]
        refine Ev.iteT (by omega) ?_
        refine Ev.succ ?_
        simp only [lex_scanner_skip.l1, h2, w1]
        exact Ev.iteT (by omega) (Ev.iteT (by omega) (Ev.iteF (by omega) IHt))
      rw [if_neg c1]
      refine Ev.iteF (by omega) ?_
      by_cases c2 : c.toNat = 32
      · rw [if_pos (by omega)]
        exact Ev.iteT (by omega) IHf
      refine Ev.iteF (by omega) ?_
      by_cases c3 : c.toNat = 9
      · rw [if_pos (by omega)]
        exact Ev.iteT (by omega) IHf
      refine Ev.iteF (by omega) ?_
      by_cases c4 : c.toNat = 10
      · rw [if_pos (by omega)]
        exact Ev.iteT (by omega) IHf
      refine Ev.iteF (by omega) ?_
      by_cases c5 : c.toNat = 13
      · rw [if_pos (by omega)]
        exact Ev.iteT (by omega) IHf
      rw [if_neg (by omega)]
      exact Ev.iteF (by omega) (Ev.pure _)
    cases b with
    | false => exact hl0
    | true =>
      refine Ev.iteT rfl ?_
      refine Ev.succ ?_
      simp only [lex_scanner_skip.l1, h2, w1]
      refine Ev.iteT (by omega) (Ev.iteT (by omega) ?_)
      by_cases c1 : c.toNat = 10
      · have e : gapL true (c :: r) = gapL false (c :: r) := by simp [gapL, c1]
        rw [e]
        exact Ev.iteT (by omega) hl0
      · have e : gapL true (c :: r) = gapL true r + 1 := by simp [gapL, c1]
        rw [e]
        exact Ev.iteF (by omega) IHt
def hx (c : UInt8) : Int := Lib.indexByte [48, 49, 50, 51, 52, 53, 54, 55, 56, 57, 97, 98, 99, 100, 101, 102] c
def hxv (a b : UInt8) : Int := (Go.bits .or .i64 (wrap64 (hx a * 16)) (Go.bits .and .i64 (hx b) 15)) % 256
def addB (v : Int) (n : Nat) : Option (List Int × Nat) → Option (List Int × Nat)
  | some (l, m) => some (v :: l, m + n)
  | none => none
/-- What stands behind the first quote: the bytes and how far it goes; none: no such text. -/
def quotedL : List UInt8 → Option (List Int × Nat)
  | [] => none
  | c :: r =>
    if c.toNat < 32 ∨ 126 < c.toNat then none
    else if c.toNat = 34 then some ([], 1)
    else if c.toNat = 92 then
      match r with
      | [] => none
      | d :: r2 =>
        if d.toNat = 110 then addB 10 2 (quotedL r2)
        else if d.toNat = 116 then addB 9 2 (quotedL r2)
        else if d.toNat = 34 ∨ d.toNat = 92 then addB (d.toNat : Int) 2 (quotedL r2)
        else if d.toNat = 120 then
          match r2 with
          | a :: b :: r3 => if 0 ≤ hx a ∧ 0 ≤ hx b then addB (hxv a b) 4 (quotedL r3) else none
          | _ => none
        else none
    else addB (c.toNat : Int) 1 (quotedL r)
def QEv (s : ByteArray) (i : Nat) (acc : List Int) (f : Nat → Option (List Int × Bool × ByteArray × Int)) : Option (List Int × Nat) → Prop
  | some (l, n) => Ev f (acc ++ l, true, s, ((i + n : Nat) : Int))
  | none => ∃ s2 j2, Ev f ([], false, s2, j2)
theorem QEv.addB {s : ByteArray} {i n : Nat} {acc : List Int} {v : Int} {f : Nat → Option (List Int × Bool × ByteArray × Int)} {o : Option (List Int × Nat)} (h : QEv s (i + n) (acc ++ [v]) f o) : QEv s i acc f (addB v n o) := by
  cases o with
  | none => exact h
  | some p =>
    obtain ⟨l, m⟩ := p
    have h : Ev f (acc ++ [v] ++ l, true, s, ((i + n + m : Nat) : Int)) := h
    rw [List.append_assoc, List.singleton_append, show i + n + m = i + (m + n) by omega] at h
    exact h
theorem QEv.map {s : ByteArray} {i : Nat} {acc : List Int} {f g : Nat → Option (List Int × Bool × ByteArray × Int)} {o : Option (List Int × Nat)} (hm : ∀ a, Ev f a → Ev g a) (h : QEv s i acc f o) : QEv s i acc g o := by
  cases o with
  | none => obtain ⟨s2, j2, h⟩ := h; exact ⟨s2, j2, hm _ h⟩
  | some p => exact hm _ h
theorem here_at {s : ByteArray} {i : Nat} {c : UInt8} {r : List UInt8} (h : s.data.toList.drop i = c :: r) : lex_scanner_here.f s (i : Int) = some ((c.toNat : Int), s, (i : Int)) := by
  obtain ⟨h1, h2, h3⟩ := drop_cons h
  unfold lex_scanner_here.f
  rw [if_pos (by omega), if_pos (by omega), h2]
theorem here_nil {s : ByteArray} {i : Nat} (h : s.data.toList.drop i = []) : lex_scanner_here.f s (i : Int) = some (0, s, (i : Int)) := by
  have := drop_nil h
  unfold lex_scanner_here.f
  rw [if_neg (by omega)]
/-- What stands behind a backslash: the byte and how far it goes. -/
def escL : List UInt8 → Option (Int × Nat)
  | [] => none
  | d :: r2 =>
    if d.toNat = 110 then some (10, 1)
    else if d.toNat = 116 then some (9, 1)
    else if d.toNat = 34 ∨ d.toNat = 92 then some ((d.toNat : Int), 1)
    else if d.toNat = 120 then
      match r2 with
      | a :: b :: _ => if 0 ≤ hx a ∧ 0 ≤ hx b then some (hxv a b, 3) else none
      | _ => none
    else none
def EEv (s : ByteArray) (i : Nat) : Option (Int × Nat) → Prop
  | some (v, n) => Ev (fun k => lex_scanner_escape.f k s (i : Int)) (v, true, s, ((i + n : Nat) : Int))
  | none => ∃ v s2 j2, Ev (fun k => lex_scanner_escape.f k s (i : Int)) (v, false, s2, j2)
theorem escape_x (s : ByteArray) (i : Nat) (d : UInt8) (r2 : List UInt8) (h : s.data.toList.drop i = d :: r2) (hi : i < s.size) (hs : s.size ≤ 16384) (d1 : ¬ d.toNat = 110) (d2 : ¬ d.toNat = 116) (d3 : ¬ (d.toNat = 34 ∨ d.toNat = 92)) (k : Nat) :
    lex_scanner_escape.f (k + 1) s (i : Int) = (if (d.toNat : Int) = 120 then (if ((i + 3 : Nat) : Int) > (s.size : Int) then (some (0, false, s, ((i + 1 : Nat) : Int))) else (if 0 ≤ ((i + 1 : Nat) : Int) then (if ((i + 1 : Nat) : Int) < (s.size : Int) then ((strings_IndexByte.f (⟨#[48, 49, 50, 51, 52, 53, 54, 55, 56, 57, 97, 98, 99, 100, 101, 102]⟩ : ByteArray) (bt s ((i + 1 : Nat) : Int))).bind fun t104 => (if 0 ≤ ((i + 2 : Nat) : Int) then (if ((i + 2 : Nat) : Int) < (s.size : Int) then ((strings_IndexByte.f (⟨#[48, 49, 50, 51, 52, 53, 54, 55, 56, 57, 97, 98, 99, 100, 101, 102]⟩ : ByteArray) (bt s ((i + 2 : Nat) : Int))).bind fun t105 => (if t104 ≥ 0 then (some ((Go.bits .or .i64 (wrap64 (t104 * 16)) (Go.bits .and .i64 t105 15)) % 256, decide (t105 ≥ 0), s, ((i + 3 : Nat) : Int))) else (some ((Go.bits .or .i64 (wrap64 (t104 * 16)) (Go.bits .and .i64 t105 15)) % 256, false, s, ((i + 3 : Nat) : Int))))) else (none)) else (none))) else (none)) else (none))) else (some (0, false, s, ((i + 1 : Nat) : Int)))) := by
  have w2 : wrap64 ((i : Int) + 1) = ((i + 1 : Nat) : Int) := wrapN (by omega)
  have w3 : wrap64 (((i + 1 : Nat) : Int) + 2) = ((i + 3 : Nat) : Int) := by unfold wrap64; omega
  have w4 : wrap64 (((i + 1 : Nat) : Int) + 1) = ((i + 2 : Nat) : Int) := by unfold wrap64; omega
  unfold lex_scanner_escape.f
  rw [here_at h]
  simp only [Option.bind_some, w2]
  rw [if_neg (by omega), if_neg (by omega), if_neg (by omega)]
  simp only [lex_scanner_escape.j0, w3, w4]
  rw [if_neg (by simp; omega)]
theorem escape_ev (s : ByteArray) (hs : s.size ≤ 16384) (l : List UInt8) (i : Nat) (h : s.data.toList.drop i = l) (hi : i ≤ s.size) : EEv s i (escL l) := by
  have w2 : wrap64 ((i : Int) + 1) = ((i + 1 : Nat) : Int) := wrapN (by omega)
  cases l with
  | nil =>
    refine ⟨0, s, ((i + 1 : Nat) : Int), ?_⟩
    simp only [lex_scanner_escape.f, here_nil h, Option.bind_some, w2]
    refine Ev.iteF (by omega) (Ev.iteF (by omega) (Ev.iteF (by omega) (Ev.succ ?_)))
    simp only [lex_scanner_escape.j0]
    exact Ev.iteF (by decide) (Ev.iteF (by omega) (Ev.pure _))
  | cons d r2 =>
    obtain ⟨g1, g2, g3⟩ := drop_cons h
    unfold escL
    dsimp only
    by_cases d1 : d.toNat = 110
    · rw [if_pos d1]
      show Ev _ _
      simp only [lex_scanner_escape.f, here_at h, Option.bind_some, w2]
      exact Ev.iteT (by omega) (Ev.pure _)
    rw [if_neg d1]
    by_cases d2 : d.toNat = 116
    · rw [if_pos d2]
      show Ev _ _
      simp only [lex_scanner_escape.f, here_at h, Option.bind_some, w2]
      exact Ev.iteF (by omega) (Ev.iteT (by omega) (Ev.pure _))
    rw [if_neg d2]
    by_cases d3 : d.toNat = 34 ∨ d.toNat = 92
    · rw [if_pos d3]
      show Ev _ _
      simp only [lex_scanner_escape.f, here_at h, Option.bind_some, w2]
      refine Ev.iteF (by omega) (Ev.iteF (by omega) ?_)
      by_cases d4 : d.toNat = 34
      · refine Ev.iteT (by omega) (Ev.succ ?_)
        simp only [lex_scanner_escape.j0]
        exact Ev.iteT (by simp; omega) (Ev.pure _)
      · refine Ev.iteF (by omega) (Ev.succ ?_)
        simp only [lex_scanner_escape.j0]
        exact Ev.iteT (by simp; omega) (Ev.pure _)
    rw [if_neg d3]
    have X := escape_x s i d r2 h g1 hs d1 d2 d3
    by_cases d5 : d.toNat = 120
    · rw [if_pos d5]
      have d5' : (d.toNat : Int) = 120 := by omega
      have hlen : s.size = i + 1 + r2.length := by
        have e := congrArg List.length g3
        simp only [List.length_drop] at e
        have : s.data.toList.length = s.size := rfl
        omega
      rcases r2 with _ | ⟨a, _ | ⟨b, r3⟩⟩
      · simp at hlen
        exact ⟨_, _, _, Ev.succ ((Ev.pure _).cast fun k => by rw [X k, if_pos d5', if_pos (by omega)])⟩
      · simp at hlen
        exact ⟨_, _, _, Ev.succ ((Ev.pure _).cast fun k => by rw [X k, if_pos d5', if_pos (by omega)])⟩
      · obtain ⟨u1, u2, u3⟩ := drop_cons g3
        obtain ⟨v1, v2, v3⟩ := drop_cons u3
        simp only [List.length_cons] at hlen
        have ea : ((a.toNat : Int)).toNat.toUInt8 = a := by simp
        have eb : ((b.toNat : Int)).toNat.toUInt8 = b := by simp
        have Y : ∀ k, lex_scanner_escape.f (k + 1) s (i : Int) = if hx a ≥ 0 then some (hxv a b, decide (hx b ≥ 0), s, ((i + 3 : Nat) : Int)) else some (hxv a b, false, s, ((i + 3 : Nat) : Int)) := by
          intro k
          rw [X k, if_pos d5', if_neg (by omega), if_pos (by omega), if_pos (by omega), u2]
          simp only [strings_IndexByte.f, Option.bind_some, ea]
          rw [if_pos (by omega), if_pos (by omega), show ((i + 2 : Nat) : Int) = ((i + 1 + 1 : Nat) : Int) from rfl, v2]
          simp only [Option.bind_some, eb]
          rfl
        dsimp only
        by_cases ha : 0 ≤ hx a
        · by_cases hb : 0 ≤ hx b
          · rw [if_pos ⟨ha, hb⟩]
            exact Ev.succ ((Ev.pure _).cast fun k => by rw [Y k, if_pos ha, decide_eq_true hb])
          · rw [if_neg (fun x => hb x.2)]
            exact ⟨_, _, _, Ev.succ ((Ev.pure _).cast fun k => by rw [Y k, if_pos ha, decide_eq_false hb])⟩
        · rw [if_neg (fun x => ha x.1)]
          exact ⟨_, _, _, Ev.succ ((Ev.pure _).cast fun k => by rw [Y k, if_neg ha])⟩
    · rw [if_neg d5]
      exact ⟨_, _, _, Ev.succ ((Ev.pure _).cast fun k => by rw [X k, if_neg (by omega)])⟩
theorem escL_le {l : List UInt8} {v : Int} {m : Nat} (h : escL l = some (v, m)) : m ≤ l.length ∧ 1 ≤ m := by
  unfold escL at h
  repeat' (split at h)
  all_goals first | (cases h; done) | (injection h with h; injection h with h1 h2; subst h2; simp only [List.length_cons]; omega)
theorem quoted_esc {r : List UInt8} : (match r with
      | [] => none
      | d :: r2 =>
        if d.toNat = 110 then addB 10 2 (quotedL r2)
        else if d.toNat = 116 then addB 9 2 (quotedL r2)
        else if d.toNat = 34 ∨ d.toNat = 92 then addB (d.toNat : Int) 2 (quotedL r2)
        else if d.toNat = 120 then
          match r2 with
          | a :: b :: r3 => if 0 ≤ hx a ∧ 0 ≤ hx b then addB (hxv a b) 4 (quotedL r3) else none
          | _ => none
        else none) = (match escL r with | some (v, m) => addB v (1 + m) (quotedL (r.drop m)) | none => none) := by
  rcases r with _ | ⟨d, r2⟩
  · rfl
  unfold escL
  dsimp only
  by_cases d1 : d.toNat = 110
  · simp only [if_pos d1, List.drop_succ_cons, List.drop_zero]
  by_cases d2 : d.toNat = 116
  · simp only [if_neg d1, if_pos d2, List.drop_succ_cons, List.drop_zero]
  by_cases d3 : d.toNat = 34 ∨ d.toNat = 92
  · simp only [if_neg d1, if_neg d2, if_pos d3, List.drop_succ_cons, List.drop_zero]
  by_cases d5 : d.toNat = 120
  · simp only [if_neg d1, if_neg d2, if_neg d3, if_pos d5]
    rcases r2 with _ | ⟨a, _ | ⟨b, r3⟩⟩
    · rfl
    · rfl
    · dsimp only
      by_cases hab : 0 ≤ hx a ∧ 0 ≤ hx b
      · simp only [if_pos hab, List.drop_succ_cons, List.drop_zero]
      · simp only [if_neg hab]
  · simp only [if_neg d1, if_neg d2, if_neg d3, if_neg d5]
theorem quoted_ev (s : ByteArray) (hs : s.size ≤ 16384) : ∀ (n : Nat) (l : List UInt8) (i : Nat) (acc : List Int), l.length ≤ n → s.data.toList.drop i = l → i ≤ s.size → acc.length ≤ i →
    QEv s i acc (fun k => lex_scanner_quoted.l0 k acc s i) (quotedL l)
  | n, [], i, acc, hn, h, hi, ha => by
    refine ⟨s, i, ?_⟩
    refine Ev.succ ?_
    simp only [lex_scanner_quoted.l0, here_nil h, Option.bind_some]
    refine Ev.iteT (by omega) (Ev.succ ?_)
    simp only [lex_scanner_quoted.j1]
    exact Ev.iteT (by simp) (Ev.pure _)
  | 0, c :: r, i, acc, hn, h, hi, ha => by simp at hn
  | n + 1, c :: r, i, acc, hn, h, hi, ha => by
    obtain ⟨h1, h2, h3⟩ := drop_cons h
    have w1 : wrap64 ((i : Int) + 1) = ((i + 1 : Nat) : Int) := wrapN (by omega)
    have hn' : r.length ≤ n := by simpa using hn
    have hal : acc.length < 140737488355328 := by omega
    have hc := c.toNat_lt
    unfold quotedL
    by_cases c1 : c.toNat < 32 ∨ 126 < c.toNat
    · rw [if_pos c1]
      refine ⟨s, i, Ev.succ ?_⟩
      simp only [lex_scanner_quoted.l0, here_at h, Option.bind_some]
      by_cases c2 : c.toNat < 32
      · refine Ev.iteT (by omega) (Ev.succ ?_)
        simp only [lex_scanner_quoted.j1]
        exact Ev.iteT (by simp) (Ev.pure _)
      · refine Ev.iteF (by omega) (Ev.succ ?_)
        simp only [lex_scanner_quoted.j1]
        exact Ev.iteT (decide_eq_true (by omega)) (Ev.pure _)
    rw [if_neg c1]
    have step : ∀ a, Ev (fun k => if (c.toNat : Int) = 34 then some (acc, true, s, ((i + 1 : Nat) : Int)) else if (c.toNat : Int) = 92 then (lex_scanner_escape.f k s ((i + 1 : Nat) : Int)).bind fun bt112 => (if bt112.2.1 = true then (if acc.length < 140737488355328 then (lex_scanner_quoted.l0 k (acc ++ [bt112.1]) bt112.2.2.1 bt112.2.2.2) else (none)) else (some (([] : List Int), false, bt112.2.2.1, bt112.2.2.2))) else (if acc.length < 140737488355328 then (lex_scanner_quoted.l0 k (acc ++ [(c.toNat : Int)]) s ((i + 1 : Nat) : Int)) else none)) a → Ev (fun k => lex_scanner_quoted.l0 k acc s i) a := by
      intro a ha
      refine Ev.succ ?_
      simp only [lex_scanner_quoted.l0, here_at h, Option.bind_some]
      refine Ev.iteF (by omega) (Ev.succ ?_)
      simp only [lex_scanner_quoted.j1, w1]
      exact Ev.iteF (by simp; omega) ha
    refine QEv.map step ?_
    by_cases c2 : c.toNat = 34
    · rw [if_pos c2]
      show Ev _ _
      rw [List.append_nil]
      exact Ev.iteT (by omega) (Ev.pure _)
    rw [if_neg c2]
    have i2 : ¬ (c.toNat : Int) = 34 := by omega
    by_cases c3 : c.toNat = 92
    · rw [if_pos c3]
      have i3 : (c.toNat : Int) = 92 := by omega
      refine QEv.map (fun a ha => Ev.iteF i2 (Ev.iteT i3 ha)) ?_
      have E := escape_ev s hs r (i + 1) h3 (by omega)
      have quo : ∀ o, escL r = o → EEv s (i + 1) o → QEv s i acc (fun k => (lex_scanner_escape.f k s ((i + 1 : Nat) : Int)).bind fun bt112 => (if bt112.2.1 = true then (if acc.length < 140737488355328 then (lex_scanner_quoted.l0 k (acc ++ [bt112.1]) bt112.2.2.1 bt112.2.2.2) else (none)) else (some (([] : List Int), false, bt112.2.2.1, bt112.2.2.2)))) (match o with | some (v, m) => addB v (1 + m) (quotedL (r.drop m)) | none => none) := by
        intro o ho hE
        cases o with
        | none =>
          obtain ⟨v, s2, j2, hE⟩ := hE
          exact ⟨s2, j2, Ev.bind hE (Ev.iteF (by simp) (Ev.pure _))⟩
        | some p =>
          obtain ⟨v, m⟩ := p
          have hE : Ev (fun k => lex_scanner_escape.f k s ((i + 1 : Nat) : Int)) (v, true, s, ((i + 1 + m : Nat) : Int)) := hE
          refine QEv.addB ?_
          rw [show i + (1 + m) = i + 1 + m by omega]
          have hd : s.data.toList.drop (i + 1 + m) = r.drop m := by rw [← h3, List.drop_drop]
          have hm := escL_le ho
          have hz : i + 1 + m ≤ s.size := by
            have e := congrArg List.length h3
            simp only [List.length_drop] at e
            have : s.data.toList.length = s.size := rfl
            omega
          exact QEv.map (fun a ha => Ev.bind hE (Ev.iteT rfl (Ev.iteT hal ha))) (quoted_ev s hs n (r.drop m) (i + 1 + m) (acc ++ [v]) (by rw [List.length_drop]; omega) hd hz (by simp; omega))
      have Q := quo _ rfl E
      rw [← quoted_esc] at Q
      exact Q
    · rw [if_neg c3]
      have i3 : ¬ (c.toNat : Int) = 92 := by omega
      refine QEv.map (fun a ha => Ev.iteF i2 (Ev.iteF i3 (Ev.iteT hal ha))) (QEv.addB ?_)
      exact quoted_ev s hs n r (i + 1) (acc ++ [(c.toNat : Int)]) hn' h3 (by omega) (by simp; omega)
def runL (p : Int → Bool) (l : List UInt8) : Nat := (l.takeWhile fun c => p (c.toNat : Int)).length
def hereL : List UInt8 → Int
  | [] => 0
  | c :: _ => (c.toNat : Int)
def arr (l : List UInt8) : ByteArray := ⟨l.toArray⟩
theorem ext_eq {s : ByteArray} {i n : Nat} {l : List UInt8} (h : s.data.toList.drop i = l) : s.extract i (i + n) = arr (l.take n) := by
  apply ByteArray.ext
  apply Array.ext'
  subst h
  simp [arr, ByteArray.data_extract, List.take_drop]
theorem here_eq {s : ByteArray} {i : Nat} {l : List UInt8} (h : s.data.toList.drop i = l) : hereB s (i : Int) = hereL l := by
  cases l with
  | nil =>
    have := drop_nil h
    unfold hereB
    rw [if_neg (by omega)]
    rfl
  | cons c r =>
    obtain ⟨h1, h2, h3⟩ := drop_cons h
    unfold hereB
    rw [if_pos (by omega), h2]
    rfl
def tokIntL (l : List UInt8) : Int × Int :=
  match Lib.parseIntB 64 (l.take (runL digB l)) with
  | .ok v => if 4611686018427387903 < v ∨ smaB (hereL (l.drop (runL digB l))) = true ∨ greB (hereL (l.drop (runL digB l))) = true then (0, 152) else (v, 0)
  | _ => (0, 152)
def tokL (l : List UInt8) : Int × ByteArray × Int × List Int × Int × Nat :=
  if digB (hereL l) = true then (1, noS, (tokIntL l).1, [], (tokIntL l).2, runL digB l)
  else if hereL l = 34 then
    match quotedL (l.drop 1) with
    | some (b, n) => (4, noS, 0, b, 0, 1 + n)
    | none => (0, noS, 0, [], 154, 0)
  else if greB (hereL l) = true then (3, arr (l.take (runL namB l)), 0, [], if 32 < runL namB l then 153 else 0, runL namB l)
  else if smaB (hereL l) = true then
    if 32 < runL namB l then (0, arr (l.take (runL namB l)), 0, [], 153, runL namB l)
    else (if lexWord (arr (l.take (runL namB l))) = true then 6 else 2, arr (l.take (runL namB l)), 0, [], 0, runL namB l)
  else match signAt (arr l) with
    | some p => (5, p, 0, [], 0, p.size)
    | none => (0, noS, 0, [], 151, 0)
theorem take_all {s : ByteArray} {i : Nat} {l : List UInt8} (h : s.data.toList.drop i = l) (hi : i ≤ s.size) : s.extract i s.size = arr l := by
  have hl : l.length = s.size - i := by
    rw [← h, List.length_drop]
    rfl
  have e := ext_eq (n := s.size - i) h
  rw [show i + (s.size - i) = s.size by omega, List.take_of_length_le (by omega)] at e
  exact e
theorem token_ev (s : ByteArray) (hs : s.size ≤ 16384) (l : List UInt8) (i : Nat) (h : s.data.toList.drop i = l) (hi : i < s.size) :
    match tokL l with
    | (kd, nm, v, b, e, n) => (e = 0 → Ev (fun k => lex_scanner_token.f k s (i : Int)) (kd, nm, v, b, (i : Int), 0, s, ((i + n : Nat) : Int))) ∧
        (e ≠ 0 → ∃ s2 j2, Ev (fun k => lex_scanner_token.f k s (i : Int)) (kd, nm, v, b, (i : Int), e, s2, j2)) := by
  have hb : bt s (i : Int) = hereL l := by
    have := here_eq h
    unfold hereB at this
    rw [if_pos (by omega)] at this
    exact this
  have F : ∀ k, lex_scanner_token.f k s (i : Int) = tokWith (lex_scanner_quoted.f k) s i := by
    intro k
    unfold lex_scanner_token.f
    rw [if_pos (by omega)]
    rfl
  have hrun : ∀ p, runLen p s i = runL p l := by
    intro p
    unfold runLen runL
    rw [h]
  have hall := take_all h (by omega)
  have hname : s.extract i (i + runL namB l) = arr (l.take (runL namB l)) := ext_eq h
  have hnext : s.data.toList.drop (i + runL digB l) = l.drop (runL digB l) := by rw [← h, List.drop_drop]
  have hint : tokInt s i = tokIntL l := by
    unfold tokInt tokIntL
    rw [hrun, ext_eq h, here_eq hnext]
    rfl
  unfold tokL
  by_cases hd : digB (hereL l) = true
  · rw [if_pos hd]
    dsimp only
    have G : ∀ k, lex_scanner_token.f k s (i : Int) = some (1, noS, (tokIntL l).1, [], (i : Int), (tokIntL l).2, s, ((i + runL digB l : Nat) : Int)) := by
      intro k
      rw [F]
      unfold tokWith
      rw [hb, if_pos hd, hint, hrun]
    constructor
    · intro e0
      have := (Ev.pure _).cast G
      rw [e0] at this
      exact this
    · intro e0
      exact ⟨_, _, (Ev.pure _).cast G⟩
  rw [if_neg hd]
  by_cases hq : hereL l = 34
  · rw [if_pos hq]
    have hd1 : s.data.toList.drop (i + 1) = l.drop 1 := by rw [← h, List.drop_drop]
    have w1 : wrap64 ((i : Int) + 1) = ((i + 1 : Nat) : Int) := wrapN (by omega)
    have Q := quoted_ev s hs (l.drop 1).length (l.drop 1) (i + 1) [] (Nat.le_refl _) hd1 (by omega) (by simp)
    have QQ : ∀ a, Ev (fun k => lex_scanner_quoted.l0 k [] s ((i + 1 : Nat) : Int)) a → Ev (fun k => lex_scanner_quoted.f k s (i : Int)) a := by
      intro a ha
      exact ha.cast fun k => by unfold lex_scanner_quoted.f; rw [w1]
    have G : ∀ k, lex_scanner_token.f k s (i : Int) = (lex_scanner_quoted.f k s (i : Int)).bind fun b => if b.2.1 = true then some (4, noS, 0, b.1, (i : Int), 0, b.2.2.1, b.2.2.2) else some (0, noS, 0, [], (i : Int), 154, b.2.2.1, b.2.2.2) := by
      intro k
      rw [F]
      unfold tokWith
      rw [hb, if_neg hd, if_pos hq]
    cases hL : quotedL (l.drop 1) with
    | none =>
      rw [hL] at Q
      obtain ⟨s2, j2, Q⟩ := Q
      exact ⟨fun e0 => by simp at e0, fun _ => ⟨s2, j2, (Ev.bind (QQ _ Q) (Ev.iteF (by simp) (Ev.pure _))).cast G⟩⟩
    | some p =>
      obtain ⟨b, n⟩ := p
      rw [hL] at Q
      have Q : Ev _ _ := Q
      refine ⟨fun _ => ?_, fun e0 => absurd rfl e0⟩
      have := (Ev.bind (QQ _ Q) (Ev.iteT rfl (Ev.pure _))).cast G
      rw [List.nil_append, show i + 1 + n = i + (1 + n) by omega] at this
      exact this
  rw [if_neg hq]
  by_cases hg : greB (hereL l) = true
  · rw [if_pos hg]
    dsimp only
    have G : ∀ k, lex_scanner_token.f k s (i : Int) = some (3, arr (l.take (runL namB l)), 0, [], (i : Int), if 32 < runL namB l then 153 else 0, s, ((i + runL namB l : Nat) : Int)) := by
      intro k
      rw [F]
      unfold tokWith
      rw [hb, if_neg hd, if_neg hq, if_pos hg, hrun, hname]
    constructor
    · intro e0
      have := (Ev.pure _).cast G
      rw [e0] at this
      exact this
    · intro e0
      exact ⟨_, _, (Ev.pure _).cast G⟩
  rw [if_neg hg]
  by_cases hm : smaB (hereL l) = true
  · rw [if_pos hm]
    by_cases hl : 32 < runL namB l
    · rw [if_pos hl]
      refine ⟨fun e0 => by simp at e0, fun _ => ⟨s, ((i + runL namB l : Nat) : Int), (Ev.pure _).cast fun k => ?_⟩⟩
      rw [F]
      unfold tokWith
      rw [hb, if_neg hd, if_neg hq, if_neg hg, if_pos hm, hrun, hname, if_pos hl]
    · rw [if_neg hl]
      refine ⟨fun _ => (Ev.pure _).cast fun k => ?_, fun e0 => absurd rfl e0⟩
      rw [F]
      unfold tokWith
      rw [hb, if_neg hd, if_neg hq, if_neg hg, if_pos hm, hrun, hname, if_neg hl]
  rw [if_neg hm]
  have G : ∀ k, lex_scanner_token.f k s (i : Int) = match signAt (arr l) with
    | some p => some (5, p, 0, [], (i : Int), 0, s, ((i + p.size : Nat) : Int))
    | none => some (0, noS, 0, [], (i : Int), 151, s, (i : Int)) := by
    intro k
    rw [F]
    unfold tokWith
    rw [hb, if_neg hd, if_neg hq, if_neg hg, if_neg hm, hall]
    rfl
  cases hS : signAt (arr l) with
  | none =>
    rw [hS] at G
    exact ⟨fun e0 => by simp at e0, fun _ => ⟨_, _, (Ev.pure _).cast G⟩⟩
  | some p =>
    rw [hS] at G
    exact ⟨fun _ => (Ev.pure _).cast G, fun e0 => absurd rfl e0⟩
def tokS (i : Nat) (l : List UInt8) : S44 := ⟨(tokL l).1, (tokL l).2.1, (tokL l).2.2.1, (tokL l).2.2.2.1, (i : Int)⟩
def tokE (l : List UInt8) : Int := (tokL l).2.2.2.2.1
def tokN (l : List UInt8) : Nat := (tokL l).2.2.2.2.2
/-- The scan from place i on, where l is still to be read and c tokens are read already: the tokens, the place, the error; m: fuel. -/
def scanL : Nat → Nat → Nat → List UInt8 → List S44 × Int × Int
  | 0, _, _, _ => ([], 0, 0)
  | m + 1, c, i, l =>
    let r := l.drop (gapL false l)
    let j := i + gapL false l
    if r = [] then ([], 0, 0)
    else if c = 4000 then ([], (j : Int), 155)
    else if tokE r = 0 then
      let x := scanL m (c + 1) (j + tokN r) (r.drop (tokN r))
      if x.2.2 = 0 then (tokS j r :: x.1, x.2) else ([], x.2)
    else ([], (j : Int), tokE r)
theorem gapL_le : ∀ (l : List UInt8) (b : Bool), gapL b l ≤ l.length
  | [], b => by cases b <;> simp [gapL]
  | c :: r, b => by
    have h1 := gapL_le r true
    have h2 := gapL_le r false
    cases b <;> simp only [gapL, List.length_cons] <;> (repeat' split) <;> omega
theorem runL_le (p : Int → Bool) (l : List UInt8) : runL p l ≤ l.length := (List.takeWhile_prefix _).length_le
theorem runL_pos {p : Int → Bool} {l : List UInt8} (h : p (hereL l) = true) (hl : l ≠ []) : 1 ≤ runL p l := by
  cases l with
  | nil => exact absurd rfl hl
  | cons c r =>
    have h : p (c.toNat : Int) = true := h
    simp [runL, h]
theorem quotedL_le : ∀ (n : Nat) (l : List UInt8) (b : List Int) (m : Nat), l.length ≤ n → quotedL l = some (b, m) → m ≤ l.length := by
  intro n
  induction n with
  | zero =>
    intro l b m hn h
    cases l with
    | nil => simp [quotedL] at h
    | cons c r => simp at hn
  | succ n ih =>
    intro l b m hn h
    cases l with
    | nil => simp [quotedL] at h
    | cons c r =>
      have hr : r.length ≤ n := by simpa using hn
      have add : ∀ (v : Int) (k : Nat) (l' : List UInt8), l'.length ≤ n → l'.length + k ≤ r.length + 1 → addB v k (quotedL l') = some (b, m) → m ≤ (c :: r).length := by
        intro v k l' h1 h2 h3
        cases hq : quotedL l' with
        | none => rw [hq] at h3; cases h3
        | some p =>
          obtain ⟨b', m'⟩ := p
          rw [hq] at h3
          have := ih l' b' m' h1 hq
          simp only [addB, Option.some.injEq, Prod.mk.injEq] at h3
          simp only [List.length_cons]
          omega
      unfold quotedL at h
      by_cases c1 : c.toNat < 32 ∨ 126 < c.toNat
      · rw [if_pos c1] at h; cases h
      rw [if_neg c1] at h
      by_cases c2 : c.toNat = 34
      · rw [if_pos c2] at h
        simp only [Option.some.injEq, Prod.mk.injEq] at h
        simp only [List.length_cons]
        omega
      rw [if_neg c2] at h
      by_cases c3 : c.toNat = 92
      · rw [if_pos c3, quoted_esc] at h
        cases hE : escL r with
        | none => rw [hE] at h; cases h
        | some p =>
          obtain ⟨v, k⟩ := p
          rw [hE] at h
          have := escL_le hE
          exact add v (1 + k) (r.drop k) (by rw [List.length_drop]; omega) (by rw [List.length_drop]; omega) h
      · rw [if_neg c3] at h
        exact add _ 1 r hr (by omega) h
theorem signAt_le {l : List UInt8} {p : ByteArray} (h : signAt (arr l) = some p) : 1 ≤ p.size ∧ p.size ≤ l.length := by
  unfold signAt at h
  have h1 := List.find?_some h
  have h2 := List.mem_of_find?_eq_some h
  constructor
  · have : ∀ q ∈ signsL, 1 ≤ q.size := by decide
    exact this p h2
  · have h3 : p.data.toList <+: (arr l).data.toList := by
      exact List.isPrefixOf_iff_prefix.mp h1
    have := h3.length_le
    simpa [arr] using this
/-- A good token takes at least one byte, and no more than there are. -/
theorem tokN_ok {l : List UInt8} (hl : l ≠ []) (h : tokE l = 0) : 1 ≤ tokN l ∧ tokN l ≤ l.length := by
  have hlen : 1 ≤ l.length := by
    cases l with
    | nil => exact absurd rfl hl
    | cons c r => simp
  unfold tokE at h
  unfold tokN
  unfold tokL at h ⊢
  by_cases hd : digB (hereL l) = true
  · rw [if_pos hd]
    exact ⟨runL_pos hd hl, runL_le _ _⟩
  rw [if_neg hd] at h ⊢
  by_cases hq : hereL l = 34
  · rw [if_pos hq] at h ⊢
    cases hL : quotedL (l.drop 1) with
    | none => rw [hL] at h; simp at h
    | some p =>
      obtain ⟨b, n⟩ := p
      have := quotedL_le _ _ _ _ (Nat.le_refl _) hL
      rw [List.length_drop] at this
      dsimp only
      omega
  rw [if_neg hq] at h ⊢
  by_cases hg : greB (hereL l) = true
  · rw [if_pos hg]
    exact ⟨runL_pos (by simp [namB, hg]) hl, runL_le _ _⟩
  rw [if_neg hg] at h ⊢
  by_cases hm : smaB (hereL l) = true
  · rw [if_pos hm]
    have : 1 ≤ runL namB l ∧ runL namB l ≤ l.length := ⟨runL_pos (by simp [namB, hm]) hl, runL_le _ _⟩
    split <;> exact this
  rw [if_neg hm] at h ⊢
  cases hS : signAt (arr l) with
  | none => rw [hS] at h; simp at h
  | some p => exact signAt_le hS
theorem scan_ev (s : ByteArray) (hs : s.size ≤ 16384) : ∀ (m : Nat) (l : List UInt8) (i : Nat) (acc : List S44), l.length < m → s.data.toList.drop i = l → i ≤ s.size → acc.length ≤ 4000 →
    Ev (fun k => lex_Scan.l0 k s acc s (i : Int)) (if (scanL m acc.length i l).2.2 = 0 then (acc ++ (scanL m acc.length i l).1, 0, 0) else ([], (scanL m acc.length i l).2)) := by
  intro m
  induction m with
  | zero => intro l i acc hm; omega
  | succ m ih =>
    intro l i acc hm h hi ha
    have hlen : s.size = i + l.length := by
      have e := congrArg List.length h
      simp only [List.length_drop] at e
      have : s.data.toList.length = s.size := rfl
      omega
    have hgl := gapL_le l false
    have hsk := skip_ev s hs l false i h hi
    simp only [Bool.false_eq_true, if_false] at hsk
    have hr : s.data.toList.drop (i + gapL false l) = l.drop (gapL false l) := by rw [← h, List.drop_drop]
    have hrl : (l.drop (gapL false l)).length = l.length - gapL false l := List.length_drop
    generalize hj : i + gapL false l = j at hsk hr
    generalize hrr : l.drop (gapL false l) = r at hr hrl
    have step : ∀ a, Ev (fun k => if (j : Int) ≥ (s.size : Int) then (some (acc, 0, 0)) else (if (acc.length : Int) = 4000 then (some (([] : List (S44)), (j : Int), 155)) else ((lex_scanner_token.f k s (j : Int)).bind fun bt125 => (if bt125.2.2.2.2.2.1 = 0 then (if acc.length < 2199023255552 then (lex_Scan.l0 k s (acc ++ [(⟨bt125.1, bt125.2.1, bt125.2.2.1, bt125.2.2.2.1, bt125.2.2.2.2.1⟩ : S44)]) bt125.2.2.2.2.2.2.1 bt125.2.2.2.2.2.2.2) else (none)) else (some (([] : List (S44)), (j : Int), bt125.2.2.2.2.2.1)))))) a → Ev (fun k => lex_Scan.l0 k s acc s (i : Int)) a := by
      intro a ha
      refine Ev.succ ?_
      simp only [lex_Scan.l0]
      exact Ev.bind (hsk.cast fun k => by unfold lex_scanner_skip.f; rfl) ha
    apply step
    unfold scanL
    simp only [hj, hrr]
    by_cases hz : r = []
    · rw [if_pos hz]
      subst hz
      simp only [if_true, List.append_nil]
      simp at hrl
      exact Ev.iteT (by omega) (Ev.pure _)
    rw [if_neg hz]
    have hpos : 1 ≤ r.length := by
      cases r with
      | nil => exact absurd rfl hz
      | cons c q => simp
    refine Ev.iteF (by omega) ?_
    by_cases hc : acc.length = 4000
    · rw [if_pos hc]
      exact Ev.iteT (by omega) (Ev.pure _)
    rw [if_neg hc]
    refine Ev.iteF (by omega) ?_
    have T := token_ev s hs r j hr (by omega)
    have T : (tokE r = 0 → Ev (fun k => lex_scanner_token.f k s (j : Int)) ((tokL r).1, (tokL r).2.1, (tokL r).2.2.1, (tokL r).2.2.2.1, (j : Int), 0, s, ((j + tokN r : Nat) : Int))) ∧
        (tokE r ≠ 0 → ∃ s2 j2, Ev (fun k => lex_scanner_token.f k s (j : Int)) ((tokL r).1, (tokL r).2.1, (tokL r).2.2.1, (tokL r).2.2.2.1, (j : Int), tokE r, s2, j2)) := T
    by_cases he : tokE r = 0
    · rw [if_pos he]
      have hn := tokN_ok hz he
      refine Ev.bind (T.1 he) (Ev.iteT rfl (Ev.iteT (by omega) ?_))
      have IH := ih (r.drop (tokN r)) (j + tokN r) (acc ++ [tokS j r]) (by rw [List.length_drop]; omega) (by rw [← hr, List.drop_drop]) (by omega) (by simp; omega)
      simp only [List.length_append, List.length_singleton] at IH
      by_cases hx : (scanL m (acc.length + 1) (j + tokN r) (r.drop (tokN r))).2.2 = 0
      · rw [if_pos hx] at IH
        rw [if_pos hx]
        rw [if_pos hx]
        rw [List.append_assoc] at IH
        exact IH
      · rw [if_neg hx] at IH
        rw [if_neg hx]
        rw [if_neg hx]
        exact IH
    · rw [if_neg he]
      obtain ⟨s2, j2, T2⟩ := T.2 he
      rw [if_neg he]
      exact Ev.bind T2 (Ev.iteF he (Ev.pure _))
/-- What Scan answers. -/
def scanA (s : ByteArray) : List S44 × Int × Int :=
  if 16384 < s.size then ([], 0, 150)
  else if (scanL (s.size + 1) 0 0 s.data.toList).2.2 = 0 then ((scanL (s.size + 1) 0 0 s.data.toList).1, 0, 0) else ([], (scanL (s.size + 1) 0 0 s.data.toList).2)
theorem scan_all (s : ByteArray) : Ev (fun k => lex_Scan.f k s) (scanA s) := by
  unfold scanA
  by_cases h : 16384 < s.size
  · rw [if_pos h]
    refine (Ev.pure _).cast fun k => ?_
    unfold lex_Scan.f
    rw [if_pos (by omega)]
  · rw [if_neg h]
    have := scan_ev s (by omega) (s.size + 1) s.data.toList 0 [] (Nat.lt_succ_self _) (by simp) (by omega) (by simp)
    simp only [List.length_nil, List.nil_append] at this
    refine this.cast fun k => ?_
    unfold lex_Scan.f
    rw [if_neg (by omega)]
    rfl
theorem quotedL_b : ∀ (n : Nat) (l : List UInt8) (b : List Int) (m : Nat), l.length ≤ n → quotedL l = some (b, m) → b.length ≤ m := by
  intro n
  induction n with
  | zero =>
    intro l b m hn h
    cases l with
    | nil => simp [quotedL] at h
    | cons c r => simp at hn
  | succ n ih =>
    intro l b m hn h
    cases l with
    | nil => simp [quotedL] at h
    | cons c r =>
      have hr : r.length ≤ n := by simpa using hn
      have add : ∀ (v : Int) (k : Nat) (l' : List UInt8), l'.length ≤ n → 1 ≤ k → addB v k (quotedL l') = some (b, m) → b.length ≤ m := by
        intro v k l' h1 h2 h3
        cases hq : quotedL l' with
        | none => rw [hq] at h3; cases h3
        | some p =>
          obtain ⟨b', m'⟩ := p
          rw [hq] at h3
          have := ih l' b' m' h1 hq
          simp only [addB, Option.some.injEq, Prod.mk.injEq] at h3
          rw [← h3.1, ← h3.2]
          simp only [List.length_cons]
          omega
      unfold quotedL at h
      by_cases c1 : c.toNat < 32 ∨ 126 < c.toNat
      · rw [if_pos c1] at h; cases h
      rw [if_neg c1] at h
      by_cases c2 : c.toNat = 34
      · rw [if_pos c2] at h
        simp only [Option.some.injEq, Prod.mk.injEq] at h
        rw [← h.1]
        simp
      rw [if_neg c2] at h
      by_cases c3 : c.toNat = 92
      · rw [if_pos c3, quoted_esc] at h
        cases hE : escL r with
        | none => rw [hE] at h; cases h
        | some p =>
          obtain ⟨v, k⟩ := p
          rw [hE] at h
          have := escL_le hE
          exact add v (1 + k) (r.drop k) (by rw [List.length_drop]; omega) (by omega) h
      · rw [if_neg c3] at h
        exact add _ 1 r hr (Nat.le_refl _) h
theorem tok_b (l : List UInt8) : (tokL l).2.2.2.1.length ≤ l.length := by
  unfold tokL
  split
  · simp
  split
  · cases hL : quotedL (l.drop 1) with
    | none => simp
    | some p =>
      obtain ⟨b, n⟩ := p
      have h1 := quotedL_b _ _ _ _ (Nat.le_refl _) hL
      have h2 := quotedL_le _ _ _ _ (Nat.le_refl _) hL
      rw [List.length_drop] at h2
      dsimp only
      omega
  split
  · simp
  split
  · split <;> simp
  · split <;> simp
theorem scan_b : ∀ (m c i : Nat) (l : List UInt8), ∀ t ∈ (scanL m c i l).1, t.f3.length ≤ l.length
  | 0, c, i, l, t, ht => by cases ht
  | m + 1, c, i, l, t, ht => by
    have hrl : (l.drop (gapL false l)).length = l.length - gapL false l := List.length_drop
    unfold scanL at ht
    dsimp only at ht
    generalize l.drop (gapL false l) = r at ht hrl
    by_cases hz : r = []
    · rw [if_pos hz] at ht; cases ht
    rw [if_neg hz] at ht
    by_cases hc : c = 4000
    · rw [if_pos hc] at ht; cases ht
    rw [if_neg hc] at ht
    by_cases he : tokE r = 0
    · rw [if_pos he] at ht
      have hdl : (r.drop (tokN r)).length = r.length - tokN r := List.length_drop
      by_cases hx : (scanL m (c + 1) (i + gapL false l + tokN r) (r.drop (tokN r))).2.2 = 0
      · rw [if_pos hx] at ht
        rcases List.mem_cons.mp ht with e | ht
        · rw [e]
          have := tok_b r
          show (tokL r).2.2.2.1.length ≤ l.length
          omega
        · have IH := scan_b m _ _ _ t ht
          omega
      · rw [if_neg hx] at ht; cases ht
    · rw [if_neg he] at ht; cases ht
theorem scan_cap : ∀ (m c i : Nat) (l : List UInt8), c ≤ 4000 → c + (scanL m c i l).1.length ≤ 4000
  | 0, c, i, l, h => by
    show c + 0 ≤ 4000
    omega
  | m + 1, c, i, l, h => by
    unfold scanL
    dsimp only
    generalize l.drop (gapL false l) = r
    by_cases hz : r = []
    · rw [if_pos hz]
      exact h
    rw [if_neg hz]
    by_cases hc : c = 4000
    · rw [if_pos hc]
      exact h
    rw [if_neg hc]
    by_cases he : tokE r = 0
    · rw [if_pos he]
      have IH := scan_cap m (c + 1) (i + gapL false l + tokN r) (r.drop (tokN r)) (by omega)
      by_cases hx : (scanL m (c + 1) (i + gapL false l + tokN r) (r.drop (tokN r))).2.2 = 0
      · rw [if_pos hx]
        simp only [List.length_cons]
        omega
      · rw [if_neg hx]
        exact h
    · rw [if_neg he]
      exact h
theorem tok_four (l : List UInt8) : (tokL l).1 = 4 ∨ (tokL l).2.2.2.1 = [] := by
  unfold tokL
  split
  · exact .inr rfl
  split
  · cases hL : quotedL (l.drop 1) with
    | none => exact .inr rfl
    | some p => exact .inl rfl
  split
  · exact .inr rfl
  split
  · split <;> exact .inr rfl
  · split <;> exact .inr rfl
theorem scan_four : ∀ (m c i : Nat) (l : List UInt8), ∀ t ∈ (scanL m c i l).1, t.f0 = 4 ∨ t.f3 = []
  | 0, c, i, l, t, ht => by cases ht
  | m + 1, c, i, l, t, ht => by
    unfold scanL at ht
    dsimp only at ht
    generalize l.drop (gapL false l) = r at ht
    by_cases hz : r = []
    · rw [if_pos hz] at ht; cases ht
    rw [if_neg hz] at ht
    by_cases hc : c = 4000
    · rw [if_pos hc] at ht; cases ht
    rw [if_neg hc] at ht
    by_cases he : tokE r = 0
    · rw [if_pos he] at ht
      by_cases hx : (scanL m (c + 1) (i + gapL false l + tokN r) (r.drop (tokN r))).2.2 = 0
      · rw [if_pos hx] at ht
        rcases List.mem_cons.mp ht with e | ht
        · rw [e]
          exact tok_four r
        · exact scan_four m _ _ _ t ht
      · rw [if_neg hx] at ht; cases ht
    · rw [if_neg he] at ht; cases ht
/-- What is told of a text's tokens. -/
theorem scan_facts (s : ByteArray) : (scanA s).1.length ≤ 4000 ∧ ∀ t ∈ (scanA s).1, t.f3.length ≤ 16384 ∧ (t.f0 = 4 ∨ t.f3 = []) := by
  unfold scanA
  split
  · exact ⟨by simp, fun t ht => by cases ht⟩
  split
  · rename_i h1 h2
    have h3 := scan_cap (s.size + 1) 0 0 s.data.toList (by omega)
    refine ⟨by dsimp only; omega, fun t ht => ⟨?_, scan_four _ _ _ _ t ht⟩⟩
    have h4 := scan_b _ _ _ _ t ht
    have : s.data.toList.length = s.size := rfl
    omega
  · exact ⟨by simp, fun t ht => by cases ht⟩
theorem scan_parse (s : ByteArray) : ((scanA s).1.length ≤ 100000 ∧ ((scanA s).1.all fun x => decide (x.f3.length ≤ 1000000000)) = true) := by
  obtain ⟨h1, h2⟩ := scan_facts s
  refine ⟨by omega, List.all_eq_true.mpr fun x hx => ?_⟩
  have := (h2 x hx).1
  exact decide_eq_true (by omega)
theorem gap_glue (m : List UInt8) : ∀ (l : List UInt8) (b : Bool), gapL b (l ++ 10 :: m) = if gapL b l = l.length then l.length + 1 + gapL false m else gapL b l
  | [], b => by
    cases b <;> simp [gapL] <;> omega
  | c :: r, b => by
    have h1 := gap_glue m r true
    have h2 := gap_glue m r false
    have l1 := gapL_le r true
    have l2 := gapL_le r false
    cases b
    · simp only [List.cons_append, gapL, List.length_cons]
      split
      · rw [h1]
        split <;> split <;> omega
      · split
        · rw [h2]
          split <;> split <;> omega
        · split <;> omega
    · simp only [List.cons_append, gapL, List.length_cons]
      split
      · rw [h2]
        split <;> split <;> omega
      · rw [h1]
        split <;> split <;> omega
theorem runL_cons (p : Int → Bool) (c : UInt8) (r : List UInt8) : runL p (c :: r) = if p (c.toNat : Int) = true then runL p r + 1 else 0 := by
  unfold runL
  rw [List.takeWhile_cons]
  split <;> simp_all
theorem run_glue (p : Int → Bool) (hp : p 10 = false) (m : List UInt8) : ∀ l : List UInt8, runL p (l ++ 10 :: m) = runL p l
  | [] => by
    rw [List.nil_append, runL_cons, if_neg (show ¬ p (((10 : UInt8).toNat : Nat) : Int) = true by rw [show (((10 : UInt8).toNat : Nat) : Int) = 10 from rfl, hp]; simp)]
    rfl
  | c :: r => by rw [List.cons_append, runL_cons, runL_cons, run_glue p hp m r]
theorem here_glue {l : List UInt8} (m : List UInt8) (h : l ≠ []) : hereL (l ++ 10 :: m) = hereL l := by
  cases l with
  | nil => exact absurd rfl h
  | cons c r => rfl
theorem esc_glue {r : List UInt8} (x : List UInt8) {v : Int} {k : Nat} (h : escL r = some (v, k)) : escL (r ++ x) = some (v, k) := by
  rcases r with _ | ⟨d, r2⟩
  · cases h
  rw [← h]
  unfold escL at h ⊢
  simp only [List.cons_append]
  by_cases d1 : d.toNat = 110
  · simp only [if_pos d1]
  by_cases d2 : d.toNat = 116
  · simp only [if_neg d1, if_pos d2]
  by_cases d3 : d.toNat = 34 ∨ d.toNat = 92
  · simp only [if_neg d1, if_neg d2, if_pos d3]
  by_cases d5 : d.toNat = 120
  · simp only [if_neg d1, if_neg d2, if_neg d3, if_pos d5] at h ⊢
    rcases r2 with _ | ⟨a, _ | ⟨b, r3⟩⟩
    · cases h
    · cases h
    · rfl
  · simp only [if_neg d1, if_neg d2, if_neg d3, if_neg d5]
theorem addB_some {v : Int} {k n : Nat} {b : List Int} {o : Option (List Int × Nat)} (h : addB v k o = some (b, n)) : ∃ b' n', o = some (b', n') := by
  cases o with
  | none => cases h
  | some p => exact ⟨p.1, p.2, rfl⟩
theorem quoted_glue (x : List UInt8) : ∀ (n : Nat) (l : List UInt8) (b : List Int) (k : Nat), l.length ≤ n → quotedL l = some (b, k) → quotedL (l ++ x) = some (b, k) := by
  intro n
  induction n with
  | zero =>
    intro l b k hn h
    cases l with
    | nil => simp [quotedL] at h
    | cons c r => simp at hn
  | succ n ih =>
    intro l b k hn h
    cases l with
    | nil => simp [quotedL] at h
    | cons c r =>
      have hr : r.length ≤ n := by simpa using hn
      rw [← h]
      unfold quotedL at h
      conv => lhs; unfold quotedL
      conv => rhs; unfold quotedL
      simp only [List.cons_append]
      by_cases c1 : c.toNat < 32 ∨ 126 < c.toNat
      · rw [if_pos c1] at h; cases h
      rw [if_neg c1] at h ⊢
      rw [if_neg c1]
      by_cases c2 : c.toNat = 34
      · rw [if_pos c2, if_pos c2]
      rw [if_neg c2] at h ⊢
      rw [if_neg c2]
      by_cases c3 : c.toNat = 92
      · rw [if_pos c3, quoted_esc] at h
        rw [if_pos c3, if_pos c3, quoted_esc, quoted_esc]
        cases hE : escL r with
        | none => rw [hE] at h; cases h
        | some p =>
          obtain ⟨v, k'⟩ := p
          have hk := escL_le hE
          rw [hE] at h
          rw [esc_glue x hE]
          dsimp only at h ⊢
          obtain ⟨b', n', hq⟩ := addB_some h
          rw [List.drop_append_of_le_length hk.1, ih _ _ _ (by rw [List.length_drop]; omega) hq, hq]
      · rw [if_neg c3] at h ⊢
        rw [if_neg c3]
        obtain ⟨b', n', hq⟩ := addB_some h
        rw [ih _ _ _ hr hq, hq]
theorem pre_glue (m : List UInt8) : ∀ (p l : List UInt8), 10 ∉ p → p.isPrefixOf (l ++ 10 :: m) = p.isPrefixOf l
  | [], l, _ => by simp [List.isPrefixOf]
  | a :: p, [], h => by
    have : ¬ a = 10 := fun e => h (by simp [e])
    simp [List.isPrefixOf, this]
  | a :: p, c :: r, h => by
    have := pre_glue m p r (fun e => h (List.mem_cons_of_mem _ e))
    simp only [List.cons_append, List.isPrefixOf, this]
theorem sign_glue (m l : List UInt8) : signAt (arr (l ++ 10 :: m)) = signAt (arr l) := by
  have h2 : ∀ x : List UInt8, (arr x).data.toList = x := fun x => by simp [arr]
  have G : ∀ L : List ByteArray, (∀ q ∈ L, (10 : UInt8) ∉ q.data.toList) → L.find? (fun p => p.data.toList.isPrefixOf (l ++ 10 :: m)) = L.find? (fun p => p.data.toList.isPrefixOf l) := by
    intro L
    induction L with
    | nil => intro _; rfl
    | cons q L ih =>
      intro h
      rw [List.find?_cons, List.find?_cons, pre_glue m _ _ (h q (by simp)), ih (fun q' hq => h q' (List.mem_cons_of_mem _ hq))]
  unfold signAt
  rw [h2, h2]
  exact G signsL (by decide)
theorem tokInt_glue {l : List UInt8} (m : List UInt8) : tokIntL (l ++ 10 :: m) = tokIntL l := by
  have hr := runL_le digB l
  have e1 : (l ++ 10 :: m).take (runL digB l) = l.take (runL digB l) := List.take_append_of_le_length hr
  have e2 : (l ++ 10 :: m).drop (runL digB l) = l.drop (runL digB l) ++ 10 :: m := List.drop_append_of_le_length hr
  unfold tokIntL
  rw [run_glue digB rfl m l, e1, e2]
  by_cases hz : l.drop (runL digB l) = []
  · rw [hz]
    rfl
  · rw [here_glue m hz]
theorem tok_glue {l : List UInt8} (m : List UInt8) (hl : l ≠ []) (h : tokE l = 0) : tokL (l ++ 10 :: m) = tokL l := by
  have hr := runL_le namB l
  have e1 : (l ++ 10 :: m).take (runL namB l) = l.take (runL namB l) := List.take_append_of_le_length hr
  have hpos : 1 ≤ l.length := by
    cases l with
    | nil => exact absurd rfl hl
    | cons c r => simp
  have e2 : (l ++ 10 :: m).drop 1 = l.drop 1 ++ 10 :: m := List.drop_append_of_le_length hpos
  unfold tokE at h
  unfold tokL at h ⊢
  rw [here_glue m hl, tokInt_glue m, run_glue digB rfl m l, run_glue namB rfl m l, e1, e2, sign_glue m l]
  by_cases hd : digB (hereL l) = true
  · rw [if_pos hd, if_pos hd]
  rw [if_neg hd] at h
  rw [if_neg hd, if_neg hd]
  by_cases hq : hereL l = 34
  · rw [if_pos hq] at h
    rw [if_pos hq, if_pos hq]
    cases hL : quotedL (l.drop 1) with
    | none => rw [hL] at h; simp at h
    | some p =>
      obtain ⟨b, n⟩ := p
      rw [quoted_glue _ _ _ _ _ (Nat.le_refl _) hL]
  rw [if_neg hq, if_neg hq]
theorem scan_fuel : ∀ (m m' c i : Nat) (l : List UInt8), l.length < m → l.length < m' → scanL m c i l = scanL m' c i l
  | 0, m', c, i, l, h, h' => by omega
  | m + 1, 0, c, i, l, h, h' => by omega
  | m + 1, m' + 1, c, i, l, h, h' => by
    have hgl := gapL_le l false
    have hrl : (l.drop (gapL false l)).length = l.length - gapL false l := List.length_drop
    conv => lhs; unfold scanL
    conv => rhs; unfold scanL
    generalize l.drop (gapL false l) = r at hrl
    dsimp only
    by_cases hz : r = []
    · rw [if_pos hz, if_pos hz]
    rw [if_neg hz, if_neg hz]
    by_cases hc : c = 4000
    · rw [if_pos hc, if_pos hc]
    rw [if_neg hc, if_neg hc]
    by_cases he : tokE r = 0
    · have hn := tokN_ok hz he
      rw [if_pos he, if_pos he, scan_fuel m m' (c + 1) (i + gapL false l + tokN r) (r.drop (tokN r)) (by rw [List.length_drop]; omega) (by rw [List.length_drop]; omega)]
    · rw [if_neg he, if_neg he]
theorem scan_good : ∀ (m c i : Nat) (l : List UInt8), (scanL m c i l).2.2 = 0 → (scanL m c i l).2 = (0, 0)
  | 0, c, i, l, h => rfl
  | m + 1, c, i, l, h => by
    unfold scanL at h ⊢
    dsimp only at h ⊢
    generalize l.drop (gapL false l) = r at h ⊢
    by_cases hz : r = []
    · rw [if_pos hz]
    rw [if_neg hz] at h ⊢
    by_cases hc : c = 4000
    · rw [if_pos hc] at h; simp at h
    rw [if_neg hc] at h ⊢
    by_cases he : tokE r = 0
    · rw [if_pos he] at h ⊢
      have IH := scan_good m (c + 1) (i + gapL false l + tokN r) (r.drop (tokN r))
      by_cases hx : (scanL m (c + 1) (i + gapL false l + tokN r) (r.drop (tokN r))).2.2 = 0
      · rw [if_pos hx]
        exact IH hx
      · rw [if_neg hx] at h
        exact absurd h hx
    · rw [if_neg he] at h
      exact absurd h he
theorem scan_err : ∀ (m c i : Nat) (l : List UInt8), (scanL m c i l).2.2 ≠ 0 → (scanL m c i l).1 = []
  | 0, c, i, l, h => rfl
  | m + 1, c, i, l, h => by
    unfold scanL at h ⊢
    dsimp only at h ⊢
    generalize l.drop (gapL false l) = r at h ⊢
    by_cases hz : r = []
    · rw [if_pos hz]
    rw [if_neg hz] at h ⊢
    by_cases hc : c = 4000
    · rw [if_pos hc]
    rw [if_neg hc] at h ⊢
    by_cases he : tokE r = 0
    · rw [if_pos he] at h ⊢
      by_cases hx : (scanL m (c + 1) (i + gapL false l + tokN r) (r.drop (tokN r))).2.2 = 0
      · rw [if_pos hx] at h
        exact absurd hx h
      · rw [if_neg hx]
    · rw [if_neg he]
theorem scan_glue : ∀ (m c i : Nat) (l : List UInt8), l.length < m → (scanL m c i l).2.2 = 0 → ∀ (M : Nat) (b : List UInt8), l.length + 1 + b.length < M →
    scanL M c i (l ++ 10 :: b) = if (scanL M (c + (scanL m c i l).1.length) (i + l.length + 1) b).2.2 = 0 then ((scanL m c i l).1 ++ (scanL M (c + (scanL m c i l).1.length) (i + l.length + 1) b).1, 0, 0) else ([], (scanL M (c + (scanL m c i l).1.length) (i + l.length + 1) b).2)
  | 0, c, i, l, hm, h, M, b, hM => by omega
  | m + 1, c, i, l, hm, h, 0, b, hM => by omega
  | m + 1, c, i, l, hm, h, M + 1, b, hM => by
    have hgl := gapL_le l false
    have hrl : (l.drop (gapL false l)).length = l.length - gapL false l := List.length_drop
    have hG := gap_glue b l false
    have ex : ∀ x, scanL (m + 1) c i l = x → scanL (m + 1) c i l = x := fun _ h => h
    by_cases hz : l.drop (gapL false l) = []
    · have e0 : scanL (m + 1) c i l = ([], 0, 0) := by
        conv => lhs; unfold scanL
        dsimp only
        rw [if_pos hz]
      rw [e0]
      have eg : gapL false l = l.length := by
        rw [hz] at hrl
        simp at hrl
        omega
      rw [if_pos eg] at hG
      have S : scanL (M + 1) c i (l ++ 10 :: b) = scanL (M + 1) c (i + l.length + 1) b := by
        have ed : (l ++ 10 :: b).drop (l.length + 1 + gapL false b) = b.drop (gapL false b) := by
          rw [show l ++ 10 :: b = (l ++ [10]) ++ b by simp, show l.length + 1 + gapL false b = (l ++ [10]).length + gapL false b by simp, List.drop_append]
          simp
        conv => lhs; unfold scanL
        conv => rhs; unfold scanL
        rw [hG, ed, show i + (l.length + 1 + gapL false b) = i + l.length + 1 + gapL false b by omega]
      rw [S]
      simp only [List.length_nil, Nat.add_zero, List.nil_append]
      by_cases hb : (scanL (M + 1) c (i + l.length + 1) b).2.2 = 0
      · rw [if_pos hb]
        exact Prod.ext rfl (scan_good _ _ _ _ hb)
      · rw [if_neg hb]
        exact Prod.ext (scan_err _ _ _ _ hb) rfl
    · have hlt : ¬ gapL false l = l.length := fun e => hz (List.drop_eq_nil_of_le (by omega))
      rw [if_neg hlt] at hG
      have ed : (l ++ 10 :: b).drop (gapL false l) = l.drop (gapL false l) ++ 10 :: b := List.drop_append_of_le_length hgl
      have hz2 : ¬ (l.drop (gapL false l) ++ 10 :: b) = [] := by simp
      generalize hrr : l.drop (gapL false l) = r at hrl hz ed hz2
      have hc : ¬ c = 4000 := by
        intro hc
        unfold scanL at h
        dsimp only at h
        rw [hrr, if_neg hz, if_pos hc] at h
        simp at h
      have he : tokE r = 0 := by
        rcases Decidable.em (tokE r = 0) with he | he
        · exact he
        · unfold scanL at h
          dsimp only at h
          rw [hrr, if_neg hz, if_neg hc, if_neg he] at h
          exact absurd h he
      have hn := tokN_ok hz he
      have hx : (scanL m (c + 1) (i + gapL false l + tokN r) (r.drop (tokN r))).2.2 = 0 := by
        rcases Decidable.em ((scanL m (c + 1) (i + gapL false l + tokN r) (r.drop (tokN r))).2.2 = 0) with hx | hx
        · exact hx
        · unfold scanL at h
          dsimp only at h
          rw [hrr, if_neg hz, if_neg hc, if_pos he, if_neg hx] at h
          exact absurd h hx
      have e1 : scanL (m + 1) c i l = (tokS (i + gapL false l) r :: (scanL m (c + 1) (i + gapL false l + tokN r) (r.drop (tokN r))).1, (scanL m (c + 1) (i + gapL false l + tokN r) (r.drop (tokN r))).2) := by
        conv => lhs; unfold scanL
        dsimp only
        rw [hrr, if_neg hz, if_neg hc, if_pos he, if_pos hx]
      have T := tok_glue b hz he
      have he2 : tokE (r ++ 10 :: b) = 0 := by unfold tokE; rw [T]; exact he
      have hn2 : tokN (r ++ 10 :: b) = tokN r := by unfold tokN; rw [T]
      have hs2 : ∀ j, tokS j (r ++ 10 :: b) = tokS j r := fun j => by unfold tokS; rw [T]
      have edd : (r ++ 10 :: b).drop (tokN r) = r.drop (tokN r) ++ 10 :: b := List.drop_append_of_le_length hn.2
      have hdl : (r.drop (tokN r)).length = r.length - tokN r := List.length_drop
      rw [e1]
      dsimp only
      rw [List.length_cons, show c + ((scanL m (c + 1) (i + gapL false l + tokN r) (r.drop (tokN r))).1.length + 1) = c + 1 + (scanL m (c + 1) (i + gapL false l + tokN r) (r.drop (tokN r))).1.length by omega]
      have ei : i + l.length + 1 = i + gapL false l + tokN r + (r.drop (tokN r)).length + 1 := by omega
      rw [ei, scan_fuel (M + 1) M _ _ b (by omega) (by omega)]
      have IH := scan_glue m (c + 1) (i + gapL false l + tokN r) (r.drop (tokN r)) (by omega) hx M b (by omega)
      conv => lhs; unfold scanL
      dsimp only
      rw [hG, ed, if_neg hz2, if_neg hc, if_pos he2, hn2, edd, hs2, IH]
      generalize scanL M (c + 1 + (scanL m (c + 1) (i + gapL false l + tokN r) (r.drop (tokN r))).1.length) (i + gapL false l + tokN r + (r.drop (tokN r)).length + 1) b = X
      by_cases hb : X.2.2 = 0
      · simp only [if_pos hb, if_true, List.cons_append]
      · simp only [if_neg hb]
def shiftT (d : Nat) (t : S44) : S44 := ⟨t.f0, t.f1, t.f2, t.f3, t.f4 + (d : Int)⟩
theorem scan_shift : ∀ (m c i : Nat) (l : List UInt8) (c' d : Nat), (scanL m c i l).2.2 = 0 → c' + (scanL m c i l).1.length ≤ 4000 → scanL m c' (i + d) l = ((scanL m c i l).1.map (shiftT d), 0, 0)
  | 0, c, i, l, c', d, h, hc => rfl
  | m + 1, c, i, l, c', d, h, hc' => by
    unfold scanL at h hc' ⊢
    dsimp only at h hc' ⊢
    generalize l.drop (gapL false l) = r at h hc' ⊢
    by_cases hz : r = []
    · rw [if_pos hz, if_pos hz]
      rfl
    rw [if_neg hz] at h hc'
    rw [if_neg hz, if_neg hz]
    by_cases hc : c = 4000
    · rw [if_pos hc] at h; simp at h
    rw [if_neg hc] at h hc'
    rw [if_neg hc]
    by_cases he : tokE r = 0
    · rw [if_pos he] at h hc'
      rw [if_pos he, if_pos he]
      by_cases hx : (scanL m (c + 1) (i + gapL false l + tokN r) (r.drop (tokN r))).2.2 = 0
      · rw [if_pos hx] at hc'
        rw [if_pos hx]
        simp only [List.length_cons] at hc'
        have IH := scan_shift m (c + 1) (i + gapL false l + tokN r) (r.drop (tokN r)) (c' + 1) d hx (by omega)
        rw [if_neg (show ¬ c' = 4000 by omega), show i + d + gapL false l + tokN r = i + gapL false l + tokN r + d by omega, IH]
        rw [if_pos (by rfl)]
        refine Prod.ext ?_ rfl
        show tokS (i + d + gapL false l) r :: _ = List.map (shiftT d) (_ :: _)
        rw [List.map_cons]
        congr 1
        unfold tokS shiftT
        dsimp only
        congr 1
        omega
      · rw [if_neg hx] at h
        exact absurd h hx
    · rw [if_neg he] at h
      exact absurd h he
theorem scan_over : ∀ (m c i : Nat) (l : List UInt8) (c' i' : Nat), (scanL m c i l).2.2 = 0 → c' ≤ 4000 → 4000 < c' + (scanL m c i l).1.length → (scanL m c' i' l).2.2 = 155
  | 0, c, i, l, c', i', h, h1, h2 => by
    have h3 : 4000 < c' + 0 := h2
    omega
  | m + 1, c, i, l, c', i', h, h1, h2 => by
    unfold scanL at h h2 ⊢
    dsimp only at h h2 ⊢
    generalize l.drop (gapL false l) = r at h h2 ⊢
    by_cases hz : r = []
    · rw [if_pos hz] at h2
      have h3 : 4000 < c' + 0 := h2
      omega
    rw [if_neg hz] at h h2
    rw [if_neg hz]
    by_cases hc' : c' = 4000
    · rw [if_pos hc']
    rw [if_neg hc']
    by_cases hc : c = 4000
    · rw [if_pos hc] at h; simp at h
    rw [if_neg hc] at h h2
    by_cases he : tokE r = 0
    · rw [if_pos he] at h h2
      rw [if_pos he]
      by_cases hx : (scanL m (c + 1) (i + gapL false l + tokN r) (r.drop (tokN r))).2.2 = 0
      · rw [if_pos hx] at h2
        simp only [List.length_cons] at h2
        have IH := scan_over m _ _ _ (c' + 1) (i' + gapL false l + tokN r) hx (by omega) (by omega)
        rw [if_neg (by rw [IH]; decide)]
        exact IH
      · rw [if_neg hx] at h
        exact absurd h hx
    · rw [if_neg he] at h
      exact absurd h he
end Go.Proofs.YtejidddjkngoiaaDoor
