/- gram: All of the reference: the parts of a tree in their order; that it ends. Texts of the reference over equal lists; names of printed trees. -/
import Derived.Test.YtejidddjkngoiaaDoorGpN
import Derived.Test.YtejidddjkngoiaaDoorPGramx3
import Derived.Test.YtejidddjkngoiaaDoorPGramx3
import Derived.Test.YtejidddjkngoiaaDoorPGramx3
namespace Go.Proofs.YtejidddjkngoiaaDoor
open Go.RowKit Go.Proofs.YtejidddjkngoiaaDoor.PGram Go.Proofs.YtejidddjkngoiaaDoorW.PrintWords
set_option linter.all false

theorem wrap64_id {n : Int} (h0 : 0 ≤ n) (h : n < 9223372036854775808) : wrap64 n = n := by unfold wrap64; omega
mutual
def preS : S28 → List S28
  | ⟨a, b, c, d, l⟩ => ⟨a, b, c, d, l⟩ :: preSL l
def preSL : List S28 → List S28
  | [] => []
  | t :: r => preS t ++ preSL r
end
mutual
def cF : S28 → Nat
  | ⟨_, _, _, _, l⟩ => 1 + cL l
def cL : List S28 → Nat
  | [] => 1
  | t :: r => 1 + cF t + cL r
end
theorem preS_pos (t : S28) : 1 ≤ (preS t).length := by cases t; simp [preS]
theorem dropT_cons {full suf : List S28} {i : Nat} {c : S28} (h : full.drop i = c :: suf) : i < full.length ∧ rd_T28 full (i : Int) = c ∧ full.drop (i + 1) = suf := by
  have hl : i < full.length := by
    rcases Nat.lt_or_ge i full.length with h' | h'
    · exact h'
    · rw [List.drop_eq_nil_of_le h'] at h; cases h
  rw [List.drop_eq_getElem_cons hl] at h
  obtain ⟨h1, h2⟩ := List.cons.inj h
  refine ⟨hl, ?_, h2⟩
  unfold rd_T28
  simp [List.getD_eq_getElem?_getD, List.getElem?_eq_getElem hl, h1]
mutual
theorem All_f : ∀ (t : S28) (k most : Nat), cF t ≤ k → 1 ≤ most → most ≤ 30000 → rookeryref16_All.f k t.f0 t.f1 t.f2 t.f3 t.f4 (most : Int) = some ((preS t).take most)
  | ⟨a, b, c, d, l⟩, k, most, hk, h1, h2 => by
    unfold cF at hk
    obtain ⟨k, rfl⟩ : ∃ q, k = q + 1 := ⟨k - 1, by omega⟩
    obtain ⟨m, rfl⟩ : ∃ q, most = q + 1 := ⟨most - 1, by omega⟩
    show rookeryref16_All.f (k + 1) a b c d l _ = _
    unfold rookeryref16_All.f preS
    rw [if_neg (by omega)]
    have := All_l l l 0 k (m + 1) [⟨a, b, c, d, l⟩] a b c d rfl (by omega) h2 (by simp) (by simp)
    rw [show ((0 : Nat) : Int) = 0 from rfl] at this
    rw [this]
    simp
theorem All_l : ∀ (suf full : List S28) (i k most : Nat) (out : List S28) (a : Int) (b : ByteArray) (c : Int) (d : List Int), full.drop i = suf → cL suf ≤ k → most ≤ 30000 → i + 1 ≤ out.length → out.length ≤ most →
    rookeryref16_All.l0 k (most : Int) out (i : Int) a b c d full = some (out ++ (preSL suf).take (most - out.length))
  | [], full, i, k, most, out, a, b, c, d, hs, hk, h2, h3, h4 => by
    unfold cL at hk
    obtain ⟨k, rfl⟩ : ∃ q, k = q + 1 := ⟨k - 1, by omega⟩
    have hl : full.length ≤ i := List.drop_eq_nil_iff.1 hs
    unfold rookeryref16_All.l0 preSL
    rw [if_neg (by omega)]
    simp
  | t :: suf, full, i, k, most, out, a, b, c, d, hs, hk, h2, h3, h4 => by
    unfold cL at hk
    obtain ⟨k, rfl⟩ : ∃ q, k = q + 1 := ⟨k - 1, by omega⟩
    obtain ⟨hl, hr, hd⟩ := dropT_cons hs
    unfold rookeryref16_All.l0 preSL
    rw [if_pos (by omega)]
    by_cases ho : out.length < most
    · rw [if_pos (by omega), if_pos (by omega), hr, wrap64_id (by omega) (by omega), show (most : Int) - (out.length : Int) = ((most - out.length : Nat) : Int) by omega, All_f t k (most - out.length) (by omega) (by omega) (by omega)]
      have hp := preS_pos t
      have hlen : ((preS t).take (most - out.length)).length = min (most - out.length) (preS t).length := List.length_take
      simp only [Option.bind_some]
      rw [if_pos (by omega), wrap64_id (by omega) (by omega), show (i : Int) + 1 = ((i + 1 : Nat) : Int) by omega]
      rw [All_l suf full (i + 1) k most _ a b c d hd (by omega) h2 (by rw [List.length_append]; omega) (by rw [List.length_append]; omega)]
      rw [List.take_append, List.append_assoc, List.length_append, hlen]
      congr 4
      omega
    · rw [if_neg (by omega), show most - out.length = 0 by omega]
      simp
end
def nameS (x : S28) : Option ByteArray := if named x.f0 then some x.f1 else none
theorem nameOf_t28 : ∀ x : S28, nameOf (t28 x) = nameS x
  | ⟨_, _, _, _, _⟩ => rfl
theorem Texts_l {l : List ByteArray} (hl : l.length ≤ 30000) : ∀ (n k i : Nat), l.length - i = n → n < k → rookeryref16_Texts.l0 k l l (i : Int) = some true
  | 0, k + 1, i, hn, hk => by
    unfold rookeryref16_Texts.l0
    rw [if_neg (by omega)]
  | n + 1, k + 1, i, hn, hk => by
    have w : wrap64 ((i : Int) + 1) = ((i + 1 : Nat) : Int) := by rw [wrap64_id (by omega) (by omega)]; omega
    unfold rookeryref16_Texts.l0
    rw [if_pos (by omega), if_pos (by omega), if_pos (by omega), if_pos rfl, w]
    exact Texts_l hl n k (i + 1) (by omega) (by omega)
end Go.Proofs.YtejidddjkngoiaaDoor
