/- lex, the plain law: a text within quotes, over the list of bytes. -/
import Derived.Test.YtgkbmdlelcbmhaaDoorLp1
namespace Go.Proofs.YtgkbmdlelcbmhaaDoor
open Go.RowKit Go.Proofs.YtgkbmdlelcbmhaaDoor.PLex Go.Proofs.YtgkbmdlelcbmhaaDoorW.PrintWords
set_option linter.all false

def hx (c : UInt8) : Int := Lib.indexByte [48, 49, 50, 51, 52, 53, 54, 55, 56, 57, 97, 98, 99, 100, 101, 102] c
def hxv (a b : UInt8) : Int := (Go.bits .or .i64 (wrap64 (hx a * 16)) (Go.bits .and .i64 (hx b) 15)) % 256
def addB (v : Int) (n : Nat) : Option (List Int × Nat) → Option (List Int × Nat)
  | some (l, m) => some (v :: l, m + n)
  | none => none
/-- What stands behind the first quote: the bytes and how far it goes; none: no such text. -/
def quotedL : List UInt8 → Option (List Int × Nat)
  | [] => none
  | c :: r =>
    if c.toNat < 32 ∨ 126 < c.toNat then none
    else if c.toNat = 34 then some ([], 1)
    else if c.toNat = 92 then
      match r with
      | [] => none
      | d :: r2 =>
        if d.toNat = 110 then addB 10 2 (quotedL r2)
        else if d.toNat = 116 then addB 9 2 (quotedL r2)
        else if d.toNat = 34 ∨ d.toNat = 92 then addB (d.toNat : Int) 2 (quotedL r2)
        else if d.toNat = 120 then
          match r2 with
          | a :: b :: r3 => if 0 ≤ hx a ∧ 0 ≤ hx b then addB (hxv a b) 4 (quotedL r3) else none
          | _ => none
        else none
    else addB (c.toNat : Int) 1 (quotedL r)
def QEv (s : ByteArray) (i : Nat) (acc : List Int) (f : Nat → Option (List Int × Bool × ByteArray × Int)) : Option (List Int × Nat) → Prop
  | some (l, n) => Ev f (acc ++ l, true, s, ((i + n : Nat) : Int))
  | none => ∃ s2 j2, Ev f ([], false, s2, j2)
theorem QEv.addB {s : ByteArray} {i n : Nat} {acc : List Int} {v : Int} {f : Nat → Option (List Int × Bool × ByteArray × Int)} {o : Option (List Int × Nat)} (h : QEv s (i + n) (acc ++ [v]) f o) : QEv s i acc f (addB v n o) := by
  cases o with
  | none => exact h
  | some p =>
    obtain ⟨l, m⟩ := p
    have h : Ev f (acc ++ [v] ++ l, true, s, ((i + n + m : Nat) : Int)) := h
    rw [List.append_assoc, List.singleton_append, show i + n + m = i + (m + n) by omega] at h
    exact h
theorem QEv.map {s : ByteArray} {i : Nat} {acc : List Int} {f g : Nat → Option (List Int × Bool × ByteArray × Int)} {o : Option (List Int × Nat)} (hm : ∀ a, Ev f a → Ev g a) (h : QEv s i acc f o) : QEv s i acc g o := by
  cases o with
  | none => obtain ⟨s2, j2, h⟩ := h; exact ⟨s2, j2, hm _ h⟩
  | some p => exact hm _ h
theorem here_at {s : ByteArray} {i : Nat} {c : UInt8} {r : List UInt8} (h : s.data.toList.drop i = c :: r) : lex_scanner_here.f s (i : Int) = some ((c.toNat : Int), s, (i : Int)) := by
  obtain ⟨h1, h2, h3⟩ := drop_cons h
  unfold lex_scanner_here.f
  rw [if_pos (by omega), if_pos (by omega), h2]
theorem here_nil {s : ByteArray} {i : Nat} (h : s.data.toList.drop i = []) : lex_scanner_here.f s (i : Int) = some (0, s, (i : Int)) := by
  have := drop_nil h
  unfold lex_scanner_here.f
  rw [if_neg (by omega)]
/-- What stands behind a backslash: the byte and how far it goes. -/
def escL : List UInt8 → Option (Int × Nat)
  | [] => none
  | d :: r2 =>
    if d.toNat = 110 then some (10, 1)
    else if d.toNat = 116 then some (9, 1)
    else if d.toNat = 34 ∨ d.toNat = 92 then some ((d.toNat : Int), 1)
    else if d.toNat = 120 then
      match r2 with
      | a :: b :: _ => if 0 ≤ hx a ∧ 0 ≤ hx b then some (hxv a b, 3) else none
      | _ => none
    else none
def EEv (s : ByteArray) (i : Nat) : Option (Int × Nat) → Prop
  | some (v, n) => Ev (fun k => lex_scanner_escape.f k s (i : Int)) (v, true, s, ((i + n : Nat) : Int))
  | none => ∃ v s2 j2, Ev (fun k => lex_scanner_escape.f k s (i : Int)) (v, false, s2, j2)
theorem escape_x (s : ByteArray) (i : Nat) (d : UInt8) (r2 : List UInt8) (h : s.data.toList.drop i = d :: r2) (hi : i < s.size) (hs : s.size ≤ 16384) (d1 : ¬ d.toNat = 110) (d2 : ¬ d.toNat = 116) (d3 : ¬ (d.toNat = 34 ∨ d.toNat = 92)) (k : Nat) :
    lex_scanner_escape.f (k + 1) s (i : Int) = (if (d.toNat : Int) = 120 then (if ((i + 3 : Nat) : Int) > (s.size : Int) then (some (0, false, s, ((i + 1 : Nat) : Int))) else (if 0 ≤ ((i + 1 : Nat) : Int) then (if ((i + 1 : Nat) : Int) < (s.size : Int) then ((strings_IndexByte.f (⟨#[48, 49, 50, 51, 52, 53, 54, 55, 56, 57, 97, 98, 99, 100, 101, 102]⟩ : ByteArray) (bt s ((i + 1 : Nat) : Int))).bind fun t104 => (if 0 ≤ ((i + 2 : Nat) : Int) then (if ((i + 2 : Nat) : Int) < (s.size : Int) then ((strings_IndexByte.f (⟨#[48, 49, 50, 51, 52, 53, 54, 55, 56, 57, 97, 98, 99, 100, 101, 102]⟩ : ByteArray) (bt s ((i + 2 : Nat) : Int))).bind fun t105 => (if t104 ≥ 0 then (some ((Go.bits .or .i64 (wrap64 (t104 * 16)) (Go.bits .and .i64 t105 15)) % 256, decide (t105 ≥ 0), s, ((i + 3 : Nat) : Int))) else (some ((Go.bits .or .i64 (wrap64 (t104 * 16)) (Go.bits .and .i64 t105 15)) % 256, false, s, ((i + 3 : Nat) : Int))))) else (none)) else (none))) else (none)) else (none))) else (some (0, false, s, ((i + 1 : Nat) : Int)))) := by
  have w2 : wrap64 ((i : Int) + 1) = ((i + 1 : Nat) : Int) := wrapN (by omega)
  have w3 : wrap64 (((i + 1 : Nat) : Int) + 2) = ((i + 3 : Nat) : Int) := by unfold wrap64; omega
  have w4 : wrap64 (((i + 1 : Nat) : Int) + 1) = ((i + 2 : Nat) : Int) := by unfold wrap64; omega
  unfold lex_scanner_escape.f
  rw [here_at h]
  simp only [Option.bind_some, w2]
  rw [if_neg (by omega), if_neg (by omega), if_neg (by omega)]
  simp only [lex_scanner_escape.j0, w3, w4]
  rw [if_neg (by simp; omega)]
theorem escape_ev (s : ByteArray) (hs : s.size ≤ 16384) (l : List UInt8) (i : Nat) (h : s.data.toList.drop i = l) (hi : i ≤ s.size) : EEv s i (escL l) := by
  have w2 : wrap64 ((i : Int) + 1) = ((i + 1 : Nat) : Int) := wrapN (by omega)
  cases l with
  | nil =>
    refine ⟨0, s, ((i + 1 : Nat) : Int), ?_⟩
    simp only [lex_scanner_escape.f, here_nil h, Option.bind_some, w2]
    refine Ev.iteF (by omega) (Ev.iteF (by omega) (Ev.iteF (by omega) (Ev.succ ?_)))
    simp only [lex_scanner_escape.j0]
    exact Ev.iteF (by decide) (Ev.iteF (by omega) (Ev.pure _))
  | cons d r2 =>
    obtain ⟨g1, g2, g3⟩ := drop_cons h
    unfold escL
    dsimp only
    by_cases d1 : d.toNat = 110
    · rw [if_pos d1]
      show Ev _ _
      simp only [lex_scanner_escape.f, here_at h, Option.bind_some, w2]
      exact Ev.iteT (by omega) (Ev.pure _)
    rw [if_neg d1]
    by_cases d2 : d.toNat = 116
    · rw [if_pos d2]
      show Ev _ _
      simp only [lex_scanner_escape.f, here_at h, Option.bind_some, w2]
      exact Ev.iteF (by omega) (Ev.iteT (by omega) (Ev.pure _))
    rw [if_neg d2]
    by_cases d3 : d.toNat = 34 ∨ d.toNat = 92
    · rw [if_pos d3]
      show Ev _ _
      simp only [lex_scanner_escape.f, here_at h, Option.bind_some, w2]
      refine Ev.iteF (by omega) (Ev.iteF (by omega) ?_)
      by_cases d4 : d.toNat = 34
      · refine Ev.iteT (by omega) (Ev.succ ?_)
        simp only [lex_scanner_escape.j0]
        exact Ev.iteT (by simp; omega) (Ev.pure _)
      · refine Ev.iteF (by omega) (Ev.succ ?_)
        simp only [lex_scanner_escape.j0]
        exact Ev.iteT (by simp; omega) (Ev.pure _)
    rw [if_neg d3]
    have X := escape_x s i d r2 h g1 hs d1 d2 d3
    by_cases d5 : d.toNat = 120
    · rw [if_pos d5]
      have d5' : (d.toNat : Int) = 120 := by omega
      have hlen : s.size = i + 1 + r2.length := by
        have e := congrArg List.length g3
        simp only [List.length_drop] at e
        have : s.data.toList.length = s.size := rfl
        omega
      rcases r2 with _ | ⟨a, _ | ⟨b, r3⟩⟩
      · simp at hlen
        exact ⟨_, _, _, Ev.succ ((Ev.pure _).cast fun k => by rw [X k, if_pos d5', if_pos (by omega)])⟩
      · simp at hlen
        exact ⟨_, _, _, Ev.succ ((Ev.pure _).cast fun k => by rw [X k, if_pos d5', if_pos (by omega)])⟩
      · obtain ⟨u1, u2, u3⟩ := drop_cons g3
        obtain ⟨v1, v2, v3⟩ := drop_cons u3
        simp only [List.length_cons] at hlen
        have ea : ((a.toNat : Int)).toNat.toUInt8 = a := by simp
        have eb : ((b.toNat : Int)).toNat.toUInt8 = b := by simp
        have Y : ∀ k, lex_scanner_escape.f (k + 1) s (i : Int) = if hx a ≥ 0 then some (hxv a b, decide (hx b ≥ 0), s, ((i + 3 : Nat) : Int)) else some (hxv a b, false, s, ((i + 3 : Nat) : Int)) := by
          intro k
          rw [X k, if_pos d5', if_neg (by omega), if_pos (by omega), if_pos (by omega), u2]
          simp only [strings_IndexByte.f, Option.bind_some, ea]
          rw [if_pos (by omega), if_pos (by omega), show ((i + 2 : Nat) : Int) = ((i + 1 + 1 : Nat) : Int) from rfl, v2]
          simp only [Option.bind_some, eb]
          rfl
        dsimp only
        by_cases ha : 0 ≤ hx a
        · by_cases hb : 0 ≤ hx b
          · rw [if_pos ⟨ha, hb⟩]
            exact Ev.succ ((Ev.pure _).cast fun k => by rw [Y k, if_pos ha, decide_eq_true hb])
          · rw [if_neg (fun x => hb x.2)]
            exact ⟨_, _, _, Ev.succ ((Ev.pure _).cast fun k => by rw [Y k, if_pos ha, decide_eq_false hb])⟩
        · rw [if_neg (fun x => ha x.1)]
          exact ⟨_, _, _, Ev.succ ((Ev.pure _).cast fun k => by rw [Y k, if_neg ha])⟩
    · rw [if_neg d5]
      exact ⟨_, _, _, Ev.succ ((Ev.pure _).cast fun k => by rw [X k, if_neg (by omega)])⟩
theorem escL_le {l : List UInt8} {v : Int} {m : Nat} (h : escL l = some (v, m)) : m ≤ l.length ∧ 1 ≤ m := by
  unfold escL at h
  repeat' (split at h)
  all_goals first | (cases h; done) | (injection h with h; injection h with h1 h2; subst h2; simp only [List.length_cons]; omega)
theorem quoted_esc {r : List UInt8} : (match r with
      | [] => none
      | d :: r2 =>
        if d.toNat = 110 then addB 10 2 (quotedL r2)
        else if d.toNat = 116 then addB 9 2 (quotedL r2)
        else if d.toNat = 34 ∨ d.toNat = 92 then addB (d.toNat : Int) 2 (quotedL r2)
        else if d.toNat = 120 then
          match r2 with
          | a :: b :: r3 => if 0 ≤ hx a ∧ 0 ≤ hx b then addB (hxv a b) 4 (quotedL r3) else none
          | _ => none
        else none) = (match escL r with | some (v, m) => addB v (1 + m) (quotedL (r.drop m)) | none => none) := by
  rcases r with _ | ⟨d, r2⟩
  · rfl
  unfold escL
  dsimp only
  by_cases d1 : d.toNat = 110
  · simp only [if_pos d1, List.drop_succ_cons, List.drop_zero]
  by_cases d2 : d.toNat = 116
  · simp only [if_neg d1, if_pos d2, List.drop_succ_cons, List.drop_zero]
  by_cases d3 : d.toNat = 34 ∨ d.toNat = 92
  · simp only [if_neg d1, if_neg d2, if_pos d3, List.drop_succ_cons, List.drop_zero]
  by_cases d5 : d.toNat = 120
  · simp only [if_neg d1, if_neg d2, if_neg d3, if_pos d5]
    rcases r2 with _ | ⟨a, _ | ⟨b, r3⟩⟩
    · rfl
    · rfl
    · dsimp only
      by_cases hab : 0 ≤ hx a ∧ 0 ≤ hx b
      · simp only [if_pos hab, List.drop_succ_cons, List.drop_zero]
      · simp only [if_neg hab]
  · simp only [if_neg d1, if_neg d2, if_neg d3, if_neg d5]
theorem quoted_ev (s : ByteArray) (hs : s.size ≤ 16384) : ∀ (n : Nat) (l : List UInt8) (i : Nat) (acc : List Int), l.length ≤ n → s.data.toList.drop i = l → i ≤ s.size → acc.length ≤ i →
    QEv s i acc (fun k => lex_scanner_quoted.l0 k acc s i) (quotedL l)
  | n, [], i, acc, hn, h, hi, ha => by
    refine ⟨s, i, ?_⟩
    refine Ev.succ ?_
    simp only [lex_scanner_quoted.l0, here_nil h, Option.bind_some]
    refine Ev.iteT (by omega) (Ev.succ ?_)
    simp only [lex_scanner_quoted.j1]
    exact Ev.iteT (by simp) (Ev.pure _)
  | 0, c :: r, i, acc, hn, h, hi, ha => by simp at hn
  | n + 1, c :: r, i, acc, hn, h, hi, ha => by
    obtain ⟨h1, h2, h3⟩ := drop_cons h
    have w1 : wrap64 ((i : Int) + 1) = ((i + 1 : Nat) : Int) := wrapN (by omega)
    have hn' : r.length ≤ n := by simpa using hn
    have hal : acc.length < 140737488355328 := by omega
    have hc := c.toNat_lt
    unfold quotedL
    by_cases c1 : c.toNat < 32 ∨ 126 < c.toNat
    · rw [if_pos c1]
      refine ⟨s, i, Ev.succ ?_⟩
      simp only [lex_scanner_quoted.l0, here_at h, Option.bind_some]
      by_cases c2 : c.toNat < 32
      · refine Ev.iteT (by omega) (Ev.succ ?_)
        simp only [lex_scanner_quoted.j1]
        exact Ev.iteT (by simp) (Ev.pure _)
      · refine Ev.iteF (by omega) (Ev.succ ?_)
        simp only [lex_scanner_quoted.j1]
        exact Ev.iteT (decide_eq_true (by omega)) (Ev.pure _)
    rw [if_neg c1]
    have step : ∀ a, Ev (fun k => if (c.toNat : Int) = 34 then some (acc, true, s, ((i + 1 : Nat) : Int)) else if (c.toNat : Int) = 92 then (lex_scanner_escape.f k s ((i + 1 : Nat) : Int)).bind fun bt112 => (if bt112.2.1 = true then (if acc.length < 140737488355328 then (lex_scanner_quoted.l0 k (acc ++ [bt112.1]) bt112.2.2.1 bt112.2.2.2) else (none)) else (some (([] : List Int), false, bt112.2.2.1, bt112.2.2.2))) else (if acc.length < 140737488355328 then (lex_scanner_quoted.l0 k (acc ++ [(c.toNat : Int)]) s ((i + 1 : Nat) : Int)) else none)) a → Ev (fun k => lex_scanner_quoted.l0 k acc s i) a := by
      intro a ha
      refine Ev.succ ?_
      simp only [lex_scanner_quoted.l0, here_at h, Option.bind_some]
      refine Ev.iteF (by omega) (Ev.succ ?_)
      simp only [lex_scanner_quoted.j1, w1]
      exact Ev.iteF (by simp; omega) ha
    refine QEv.map step ?_
    by_cases c2 : c.toNat = 34
    · rw [if_pos c2]
      show Ev _ _
      rw [List.append_nil]
      exact Ev.iteT (by omega) (Ev.pure _)
    rw [if_neg c2]
    have i2 : ¬ (c.toNat : Int) = 34 := by omega
    by_cases c3 : c.toNat = 92
    · rw [if_pos c3]
      have i3 : (c.toNat : Int) = 92 := by omega
      refine QEv.map (fun a ha => Ev.iteF i2 (Ev.iteT i3 ha)) ?_
      have E := escape_ev s hs r (i + 1) h3 (by omega)
      have quo : ∀ o, escL r = o → EEv s (i + 1) o → QEv s i acc (fun k => (lex_scanner_escape.f k s ((i + 1 : Nat) : Int)).bind fun bt112 => (if bt112.2.1 = true then (if acc.length < 140737488355328 then (lex_scanner_quoted.l0 k (acc ++ [bt112.1]) bt112.2.2.1 bt112.2.2.2) else (none)) else (some (([] : List Int), false, bt112.2.2.1, bt112.2.2.2)))) (match o with | some (v, m) => addB v (1 + m) (quotedL (r.drop m)) | none => none) := by
        intro o ho hE
        cases o with
        | none =>
          obtain ⟨v, s2, j2, hE⟩ := hE
          exact ⟨s2, j2, Ev.bind hE (Ev.iteF (by simp) (Ev.pure _))⟩
        | some p =>
          obtain ⟨v, m⟩ := p
          have hE : Ev (fun k => lex_scanner_escape.f k s ((i + 1 : Nat) : Int)) (v, true, s, ((i + 1 + m : Nat) : Int)) := hE
          refine QEv.addB ?_
          rw [show i + (1 + m) = i + 1 + m by omega]
          have hd : s.data.toList.drop (i + 1 + m) = r.drop m := by rw [← h3, List.drop_drop]
          have hm := escL_le ho
          have hz : i + 1 + m ≤ s.size := by
            have e := congrArg List.length h3
            simp only [List.length_drop] at e
            have : s.data.toList.length = s.size := rfl
            omega
          exact QEv.map (fun a ha => Ev.bind hE (Ev.iteT rfl (Ev.iteT hal ha))) (quoted_ev s hs n (r.drop m) (i + 1 + m) (acc ++ [v]) (by rw [List.length_drop]; omega) hd hz (by simp; omega))
      have Q := quo _ rfl E
      rw [← quoted_esc] at Q
      exact Q
    · rw [if_neg c3]
      have i3 : ¬ (c.toNat : Int) = 92 := by omega
      refine QEv.map (fun a ha => Ev.iteF i2 (Ev.iteF i3 (Ev.iteT hal ha))) (QEv.addB ?_)
      exact quoted_ev s hs n r (i + 1) (acc ++ [(c.toNat : Int)]) hn' h3 (by omega) (by simp; omega)
end Go.Proofs.YtgkbmdlelcbmhaaDoor
