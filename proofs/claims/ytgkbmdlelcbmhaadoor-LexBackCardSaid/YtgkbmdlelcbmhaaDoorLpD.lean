/- lex, the plain law: lists of tokens, element by element; two tokens but for their places. -/
import Derived.Test.YtgkbmdlelcbmhaaDoorLpB
import Derived.Test.YtgkbmdlelcbmhaaDoorPLexx4
namespace Go.Proofs.YtgkbmdlelcbmhaaDoor
open Go.RowKit Go.Proofs.YtgkbmdlelcbmhaaDoor.PLex Go.Proofs.YtgkbmdlelcbmhaaDoorW.PrintWords
set_option linter.all false

theorem rd_at (L : List S33) (n : Nat) (t : S33) (r : List S33) (h : L.drop n = t :: r) : rd_T33 L (n : Int) = t ∧ n < L.length ∧ L.drop (n + 1) = r := by
  have hl : n < L.length := by
    rcases Nat.lt_or_ge n L.length with h1 | h1
    · exact h1
    · rw [List.drop_eq_nil_of_le h1] at h; cases h
  have h2 := List.drop_eq_getElem_cons hl
  rw [h] at h2
  obtain ⟨e1, e2⟩ := List.cons.inj h2
  refine ⟨?_, hl, e2.symm⟩
  unfold rd_T33
  rw [show (n : Int).toNat = n from rfl, List.getD_eq_getElem?_getD, List.getElem?_eq_getElem hl, e1]
  rfl
theorem same_self {a b : S33} (h : SameS a b) : rookeryref15_Same.f a.f0 a.f1 a.f2 a.f3 a.f4 b.f0 b.f1 b.f2 b.f3 b.f4 = some true := by
  obtain ⟨h1, h2, h3, h4⟩ := h
  unfold rookeryref15_Same.f
  rw [h1, h2, h3, h4, if_pos rfl, if_pos rfl, if_pos rfl]
  simp
theorem SameS.refl (a : S33) : SameS a a := ⟨rfl, rfl, rfl, rfl⟩
theorem scanL_len : ∀ (m c i : Nat) (l : List UInt8), (scanL m c i l).1.length ≤ m
  | 0, c, i, l => Nat.le_refl _
  | m + 1, c, i, l => by
    unfold scanL
    dsimp only
    generalize l.drop (gapL false l) = r
    have IH := scanL_len m (c + 1) (i + gapL false l + tokN r) (r.drop (tokN r))
    repeat' split
    all_goals simp
    all_goals omega
theorem scanA_len (s : ByteArray) : (scanA s).1.length ≤ 16385 := by
  unfold scanA
  have := scanL_len (s.size + 1) 0 0 s.data.toList
  split
  · simp
  · split
    · dsimp only
      omega
    · simp
theorem wrap_id' {x : Int} (h1 : -9223372036854775808 ≤ x) (h2 : x ≤ 9223372036854775807) : wrap64 x = x := by
  unfold wrap64
  omega
end Go.Proofs.YtgkbmdlelcbmhaaDoor
