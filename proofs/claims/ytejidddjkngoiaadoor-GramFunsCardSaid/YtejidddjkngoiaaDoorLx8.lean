/- lex: what token answers, as one function; its contract. The place lies in the text, the text has at most 16384 bytes. -/
import Derived.Test.YtejidddjkngoiaaDoorLx4
import Derived.Test.YtejidddjkngoiaaDoorLx5
import Derived.Test.YtejidddjkngoiaaDoorLx6
import Derived.Test.YtejidddjkngoiaaDoorLx7
namespace Go.Proofs.YtejidddjkngoiaaDoor
open Go.RowKit Go.Proofs.YtejidddjkngoiaaDoorW.PrintWords
set_option linter.all false
def noS : ByteArray := ⟨#[]⟩
def signAt (X : ByteArray) : Option ByteArray := signsL.find? fun p => Lib.hasPrefix X.data.toList p.data.toList
def tokInt (s : ByteArray) (i : Nat) : Int × Int :=
  match Lib.parseIntB 64 (s.extract i (i + runLen digB s i)).data.toList with
  | .ok v => if 4611686018427387903 < v ∨ smaB (hereB s ((i + runLen digB s i : Nat) : Int)) = true ∨ greB (hereB s ((i + runLen digB s i : Nat) : Int)) = true then (0, 152) else (v, 0)
  | _ => (0, 152)
def tokWith (q : ByteArray → Int → Option (List Int × Bool × ByteArray × Int)) (s : ByteArray) (i : Nat) : Option (Int × ByteArray × Int × List Int × Int × Int × ByteArray × Int) :=
  if digB (bt s (i : Int)) = true then some (1, noS, (tokInt s i).1, [], (i : Int), (tokInt s i).2, s, ((i + runLen digB s i : Nat) : Int))
  else if bt s (i : Int) = 34 then
    (q s (i : Int)).bind fun b => if b.2.1 = true then some (4, noS, 0, b.1, (i : Int), 0, b.2.2.1, b.2.2.2) else some (0, noS, 0, [], (i : Int), 154, b.2.2.1, b.2.2.2)
  else if greB (bt s (i : Int)) = true then
    some (3, s.extract i (i + runLen namB s i), 0, [], (i : Int), if 32 < runLen namB s i then 153 else 0, s, ((i + runLen namB s i : Nat) : Int))
  else if smaB (bt s (i : Int)) = true then
    if 32 < runLen namB s i then some (0, s.extract i (i + runLen namB s i), 0, [], (i : Int), 153, s, ((i + runLen namB s i : Nat) : Int))
    else some (if lexWord (s.extract i (i + runLen namB s i)) = true then 6 else 2, s.extract i (i + runLen namB s i), 0, [], (i : Int), 0, s, ((i + runLen namB s i : Nat) : Int))
  else match signAt (s.extract i s.size) with
    | some p => some (5, p, 0, [], (i : Int), 0, s, ((i + p.size : Nat) : Int))
    | none => some (0, noS, 0, [], (i : Int), 151, s, (i : Int))
theorem signAt_some {X : ByteArray} {k : Nat} (h : k < signsL.length) (hn : NoneB X.data.toList k) (hp : Lib.hasPrefix X.data.toList (signsL[k]).data.toList = true) : signAt X = some signsL[k] := by
  unfold signAt
  rw [List.find?_eq_some_iff_getElem]
  exact ⟨hp, k, h, rfl, fun m hm => by simp [hn m (by omega) hm]⟩
theorem signAt_none {X : ByteArray} (hn : NoneB X.data.toList 22) : signAt X = none := by
  unfold signAt
  rw [List.find?_eq_none]
  intro p hp
  obtain ⟨m, hm, rfl⟩ := List.getElem_of_mem hp
  simp [hn m hm hm]
abbrev TokPost (w0 w : World) (g : Nat) (r1 : Int) (r2 : ByteArray) (r3 : Int) (r4 : List Int) (r5 r6 : Int) (r7 : ByteArray) (r8 : Int) (e : Ending) (w' : World) : Prop :=
  ∃ v3_ : Value, e = .returned (.tuple #[.agg #[.int .i64 r1, .string r2, .int .i64 r3, v3_, .int .i64 r5], .int .i64 r6]) ∧ Kd.R (Kd.int .u8) 5 w' w.heap.size (fun _ => True) v3_ r4 ∧ ScAt w' g r7 r8 ∧ Below w0.heap.size w0 w' ∧ KeepBut w w' g none
theorem token_calls (q : ByteArray → Int → Option (List Int × Bool × ByteArray × Int)) (g : Nat) (s : ByteArray) (i : Nat) (r1 : Int) (r2 : ByteArray) (r3 : Int) (r4 : List Int) (r5 r6 : Int) (r7 : ByteArray) (r8 : Int) (w0 w : World)
    (hI : ScAt w g s (i : Int)) (hgg : w0.heap.size ≤ g) (hB : Below w0.heap.size w0 w) (hG : Glob w0) (hlt : i < s.size) (hs : s.size ≤ 16384)
    (HQ : ∀ l ok s2 j2, q s (i : Int) = some (l, ok, s2, j2) → QHyp w0 g s i ok l s2 j2) (h : tokWith q s i = some (r1, r2, r3, r4, r5, r6, r7, r8)) :
    Calls Tryd.prog 20 #[.pointer (some ⟨g, 0, none⟩)] w (TokPost w0 w g r1 r2 r3 r4 r5 r6 r7 r8) := by
  have nilR : ∀ w', Kd.R (Kd.int .u8) 5 w' w.heap.size (fun _ => True) (.slice none 0 0) [] := fun w' => Kd.R_nil _ _ _ _ _
  have bel : ∀ w', Below g w w' → Below w0.heap.size w0 w' := fun w' hb => hB.trans (hb.mono hgg)
  unfold tokWith at h
  by_cases hd : digB (bt s (i : Int)) = true
  · rw [if_pos hd] at h
    simp only [Option.some.injEq, Prod.mk.injEq] at h
    obtain ⟨rfl, rfl, rfl, rfl, rfl, rfl, rfl, rfl⟩ := h
    cases hp : Lib.parseIntB 64 (s.extract i (i + runLen digB s i)).data.toList with
    | ok v =>
      by_cases hc : 4611686018427387903 < v ∨ smaB (hereB s ((i + runLen digB s i : Nat) : Int)) = true ∨ greB (hereB s ((i + runLen digB s i : Nat) : Int)) = true
      · have ht : tokInt s i = (0, 152) := by unfold tokInt; rw [hp]; exact if_pos hc
        rw [ht]
        by_cases hv : 4611686018427387903 < v
        · exact (token_int_big g s i w hI hlt hs hd v hp hv).mono fun e w' ⟨he, h1, h2, h3⟩ => ⟨_, he, nilR _, h1, bel _ h3, h2⟩
        by_cases hsm : smaB (hereB s ((i + runLen digB s i : Nat) : Int)) = true
        · exact (token_int_small g s i w hI hlt hs hd v hp (by omega) hsm).mono fun e w' ⟨he, h1, h2, h3⟩ => ⟨_, he, nilR _, h1, bel _ h3, h2⟩
        · have hgr : greB (hereB s ((i + runLen digB s i : Nat) : Int)) = true := by
            rcases hc with h | h | h
            · exact absurd h hv
            · exact absurd h hsm
            · exact h
          exact (token_int_great g s i w hI hlt hs hd v hp (by omega) (by simpa using hsm) hgr).mono fun e w' ⟨he, h1, h2, h3⟩ => ⟨_, he, nilR _, h1, bel _ h3, h2⟩
      · have ht : tokInt s i = (v, 0) := by unfold tokInt; rw [hp]; exact if_neg hc
        rw [ht]
        simp only [not_or] at hc
        exact (token_int_ok g s i w hI hlt hs hd v hp (by omega) (by simpa using hc.2.1) (by simpa using hc.2.2)).mono fun e w' ⟨he, h1, h2, h3⟩ => ⟨_, he, nilR _, h1, bel _ h3, h2⟩
    | _ =>
      have ht : tokInt s i = (0, 152) := by unfold tokInt; rw [hp]
      rw [ht]
      exact (token_int_bad g s i w w0 hG hB hgg hI hlt hs hd (fun v => by rw [hp]; simp)).mono fun e w' ⟨he, h1, h2, h3⟩ => ⟨_, he, nilR _, h1, bel _ h3, h2⟩
  rw [if_neg hd] at h
  replace hd : digB (bt s (i : Int)) = false := by simpa using hd
  by_cases hq : bt s (i : Int) = 34
  · rw [if_pos hq] at h
    obtain ⟨⟨l, ok, s2, j2⟩, hb, h⟩ := Option.bind_eq_some_iff.mp h
    have Q := HQ l ok s2 j2 hb
    cases ok with
    | true =>
      simp only [if_true, Option.some.injEq, Prod.mk.injEq] at h
      obtain ⟨rfl, rfl, rfl, rfl, rfl, rfl, rfl, rfl⟩ := h
      exact (token_text_ok g s i w w0 hI hlt hq _ _ _ Q hB hgg).mono fun e w' ⟨v, he, hv, h1, h2, h3⟩ => ⟨v, he, hv, h1, bel _ h3, h2⟩
    | false =>
      simp only [Bool.false_eq_true, if_false, Option.some.injEq, Prod.mk.injEq] at h
      obtain ⟨rfl, rfl, rfl, rfl, rfl, rfl, rfl, rfl⟩ := h
      exact (token_text_bad g s i w w0 hI hlt hq _ _ _ Q hB hgg).mono fun e w' ⟨he, h1, h2, h3⟩ => ⟨_, he, nilR _, h1, bel _ h3, h2⟩
  rw [if_neg hq] at h
  have hq' : (bt s (i : Int) == 34) = false := by simpa using hq
  by_cases hgr : greB (bt s (i : Int)) = true
  · rw [if_pos hgr] at h
    simp only [Option.some.injEq, Prod.mk.injEq] at h
    obtain ⟨rfl, rfl, rfl, rfl, rfl, rfl, rfl, rfl⟩ := h
    by_cases hl : 32 < runLen namB s i
    · rw [if_pos hl]
      exact (token_var_long g s i w hI hlt hs hd hq' hgr hl).mono fun e w' ⟨he, h1, h2, h3⟩ => ⟨_, he, nilR _, h1, bel _ h3, h2⟩
    · rw [if_neg hl]
      exact (token_var g s i w hI hlt hs hd hq' hgr (by omega)).mono fun e w' ⟨he, h1, h2, h3⟩ => ⟨_, he, nilR _, h1, bel _ h3, h2⟩
  rw [if_neg hgr] at h
  replace hgr : greB (bt s (i : Int)) = false := by simpa using hgr
  by_cases hsm : smaB (bt s (i : Int)) = true
  · rw [if_pos hsm] at h
    by_cases hl : 32 < runLen namB s i
    · rw [if_pos hl] at h
      simp only [Option.some.injEq, Prod.mk.injEq] at h
      obtain ⟨rfl, rfl, rfl, rfl, rfl, rfl, rfl, rfl⟩ := h
      exact (token_name_long g s i w hI hlt hs hd hq' hgr hsm hl).mono fun e w' ⟨he, h1, h2, h3⟩ => ⟨_, he, nilR _, h1, bel _ h3, h2⟩
    · rw [if_neg hl] at h
      simp only [Option.some.injEq, Prod.mk.injEq] at h
      obtain ⟨rfl, rfl, rfl, rfl, rfl, rfl, rfl, rfl⟩ := h
      by_cases hw : lexWord (s.extract i (i + runLen namB s i)) = true
      · rw [if_pos hw]
        exact (token_word g s i w w0 hG hB hgg hI hlt hs hd hq' hgr hsm (by omega) hw).mono fun e w' ⟨he, h1, h2, h3⟩ => ⟨_, he, nilR _, h1, bel _ h3, h2⟩
      · rw [if_neg hw]
        exact (token_atom g s i w w0 hG hB hgg hI hlt hs hd hq' hgr hsm (by omega) (by simpa using hw)).mono fun e w' ⟨he, h1, h2, h3⟩ => ⟨_, he, nilR _, h1, bel _ h3, h2⟩
  rw [if_neg hsm] at h
  replace hsm : smaB (bt s (i : Int)) = false := by simpa using hsm
  refine (token_sign g s i w hI hlt hs hd hq' hgr hsm).mono fun e w' ⟨hc, h2, h3⟩ => ?_
  rcases hc with ⟨k, hk, hn, hp, he, h1⟩ | ⟨hn, he, h1⟩
  · rw [signAt_some hk hn hp] at h
    simp only [Option.some.injEq, Prod.mk.injEq] at h
    obtain ⟨rfl, rfl, rfl, rfl, rfl, rfl, rfl, rfl⟩ := h
    exact ⟨_, he, nilR _, h1, bel _ h3, h2⟩
  · rw [signAt_none hn] at h
    simp only [Option.some.injEq, Prod.mk.injEq] at h
    obtain ⟨rfl, rfl, rfl, rfl, rfl, rfl, rfl, rfl⟩ := h
    exact ⟨_, he, nilR _, h1, bel _ h3, h2⟩
theorem tokWith_mono {q q' : ByteArray → Int → Option (List Int × Bool × ByteArray × Int)} (hq : ∀ s i r, q s i = some r → q' s i = some r) (s : ByteArray) (i : Nat) (r) (h : tokWith q s i = some r) : tokWith q' s i = some r := by
  unfold tokWith at h ⊢
  by_cases hd : digB (bt s (i : Int)) = true
  · rw [if_pos hd] at h ⊢
    exact h
  rw [if_neg hd] at h ⊢
  by_cases hq' : bt s (i : Int) = 34
  · rw [if_pos hq'] at h ⊢
    obtain ⟨b, hb, h⟩ := Option.bind_eq_some_iff.mp h
    rw [hq _ _ _ hb]
    exact h
  rw [if_neg hq'] at h ⊢
  exact h
end Go.Proofs.YtejidddjkngoiaaDoor
