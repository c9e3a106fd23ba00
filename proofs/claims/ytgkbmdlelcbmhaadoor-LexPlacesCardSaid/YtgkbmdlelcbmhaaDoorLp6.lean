/- lex, the plain law: where the tokens stand. -/
import Derived.Test.YtgkbmdlelcbmhaaDoorLpA
namespace Go.Proofs.YtgkbmdlelcbmhaaDoor
open Go.RowKit Go.Proofs.YtgkbmdlelcbmhaaDoor.PLex Go.Proofs.YtgkbmdlelcbmhaaDoorW.PrintWords
set_option linter.all false

theorem tok_place {l : List UInt8} (h : tokE l = 0) : ((tokL l).2.1.size = 0 ∨ ((tokL l).2.1.size ≤ l.length ∧ arr (l.take (tokL l).2.1.size) = (tokL l).2.1)) ∧ ((tokL l).1 = 4 → hereL l = 34) := by
  have tk : ∀ n, n ≤ l.length → (arr (l.take n)).size = n := by
    intro n hn
    simp [arr, ByteArray.size]
    omega
  unfold tokE at h
  unfold tokL at h ⊢
  by_cases hd : digB (hereL l) = true
  · rw [if_pos hd]
    exact ⟨.inl rfl, fun e => by simp at e⟩
  rw [if_neg hd] at h ⊢
  by_cases hq : hereL l = 34
  · exact ⟨.inl (by rw [if_pos hq]; cases quotedL (l.drop 1) <;> rfl), fun _ => hq⟩
  rw [if_neg hq] at h ⊢
  have hr := runL_le namB l
  by_cases hg : greB (hereL l) = true
  · rw [if_pos hg]
    exact ⟨.inr ⟨by rw [tk _ hr]; exact hr, by rw [tk _ hr]⟩, fun e => by simp at e⟩
  rw [if_neg hg] at h ⊢
  by_cases hm : smaB (hereL l) = true
  · rw [if_pos hm] at h ⊢
    by_cases hl : 32 < runL namB l
    · rw [if_pos hl] at h
      simp at h
    · rw [if_neg hl]
      exact ⟨.inr ⟨by rw [tk _ hr]; exact hr, by rw [tk _ hr]⟩, fun e => by dsimp only at e; split at e <;> simp at e⟩
  rw [if_neg hm] at h ⊢
  cases hS : signAt (arr l) with
  | none => rw [hS] at h; simp at h
  | some p =>
    refine ⟨.inr ⟨(signAt_le hS).2, ?_⟩, fun e => by simp at e⟩
    unfold signAt at hS
    have h0 := List.find?_some hS
    have h1 : p.data.toList <+: (arr l).data.toList := by exact List.isPrefixOf_iff_prefix.mp h0
    have h2 : (arr l).data.toList = l := by simp [arr]
    rw [h2] at h1
    have h3 := List.prefix_iff_eq_take.mp h1
    have h4 : p.data.toList.length = p.size := rfl
    rw [h4] at h3
    apply ByteArray.ext
    apply Array.ext'
    show (l.take p.size).toArray.toList = p.data.toList
    rw [← h3]
/-- a token that stands rightly in s, at place a -/
def PlOk (s : ByteArray) (t : S33) (a : Nat) : Prop :=
  t.f4 = (a : Int) ∧ a < s.size ∧ (t.f1.size = 0 ∨ (a + t.f1.size ≤ s.size ∧ s.extract a (a + t.f1.size) = t.f1)) ∧ (t.f0 = 4 → bt s (a : Int) = 34)
/-- the tokens stand rightly, one behind the other, the first at place b or later -/
def Places (s : ByteArray) : Nat → List S33 → Prop
  | _, [] => True
  | b, t :: r => ∃ a, b ≤ a ∧ PlOk s t a ∧ Places s (a + 1) r
theorem scan_places (s : ByteArray) : ∀ (m c i : Nat) (l : List UInt8), s.data.toList.drop i = l → i ≤ s.size → 
    ((scanL m c i l).2.2 = 0 → Places s i (scanL m c i l).1) ∧ ((scanL m c i l).2.2 ≠ 0 → ∃ a : Nat, (scanL m c i l).2.1 = (a : Int) ∧ a ≤ s.size)
  | 0, c, i, l, h, hi => ⟨fun _ => trivial, fun e => absurd rfl e⟩
  | m + 1, c, i, l, h, hi => by
    have hlen : s.size = i + l.length := by
      have e := congrArg List.length h
      simp only [List.length_drop] at e
      have : s.data.toList.length = s.size := rfl
      omega
    have hgl := gapL_le l false
    have hr : s.data.toList.drop (i + gapL false l) = l.drop (gapL false l) := by rw [← h, List.drop_drop]
    have hrl : (l.drop (gapL false l)).length = l.length - gapL false l := List.length_drop
    generalize hj : i + gapL false l = j at hr
    generalize hrr : l.drop (gapL false l) = r at hr hrl
    unfold scanL
    simp only [hj, hrr]
    by_cases hz : r = []
    · rw [if_pos hz]
      exact ⟨fun _ => trivial, fun e => absurd rfl e⟩
    rw [if_neg hz]
    have hpos : 1 ≤ r.length := by
      cases r with
      | nil => exact absurd rfl hz
      | cons c q => simp
    by_cases hc : c = 4000
    · rw [if_pos hc]
      exact ⟨fun e => by simp at e, fun _ => ⟨j, rfl, by omega⟩⟩
    rw [if_neg hc]
    by_cases he : tokE r = 0
    · rw [if_pos he]
      have hn := tokN_ok hz he
      have j1 : i ≤ j := by omega
      have j2 : j < s.size := by omega
      have j3 : ∀ z : Nat, z ≤ r.length → j + z ≤ s.size := fun z hz => by omega
      have j5 : (j : Int) < (s.size : Int) := by omega
      have j6 : j + 1 ≤ j + tokN r := by omega
      have IH := scan_places s m (c + 1) (j + tokN r) (r.drop (tokN r)) (by rw [← hr, List.drop_drop]) (by omega)
      by_cases hx : (scanL m (c + 1) (j + tokN r) (r.drop (tokN r))).2.2 = 0
      · rw [if_pos hx]
        refine ⟨fun _ => ?_, fun e => absurd hx e⟩
        have T := tok_place he
        refine ⟨j, j1, ⟨rfl, j2, ?_, ?_⟩, ?_⟩
        · rcases T.1 with h1 | ⟨h1, h2⟩
          · exact .inl h1
          · refine .inr ⟨?_, ?_⟩
            · show j + (tokL r).2.1.size ≤ s.size
              exact j3 _ h1
            · show s.extract j (j + (tokL r).2.1.size) = (tokL r).2.1
              rw [ext_eq hr, h2]
        · intro h4
          have h5 := T.2 h4
          have h6 := here_eq hr
          unfold hereB at h6
          rw [if_pos j5] at h6
          exact h6.trans h5
        · have P := IH.1 hx
          have mono : ∀ (q : List S33) (b b' : Nat), b' ≤ b → Places s b q → Places s b' q := by
            intro q b b' hb hp
            cases q with
            | nil => trivial
            | cons t q => obtain ⟨a, h1, h2⟩ := hp; exact ⟨a, by omega, h2⟩
          exact mono _ _ _ j6 P
      · rw [if_neg hx]
        exact ⟨fun e => absurd e hx, fun _ => IH.2 hx⟩
    · rw [if_neg he]
      exact ⟨fun e => absurd e he, fun _ => ⟨j, rfl, by omega⟩⟩
end Go.Proofs.YtgkbmdlelcbmhaaDoor
