/- gram: GramNames: the names of any tree are those that the reference finds. -/
import Derived.Test.YtejidddjkngoiaaDoorGpO
import Derived.Test.YtejidddjkngoiaaDoorPGramx5
namespace Go.Proofs.YtejidddjkngoiaaDoor
open Go.RowKit Go.Proofs.YtejidddjkngoiaaDoor.PGram Go.Proofs.YtejidddjkngoiaaDoorW.PrintWords
set_option linter.all false

def nameS (x : S28) : Option ByteArray := if named x.f0 then some x.f1 else none
theorem nameOf_t28 : ∀ x : S28, nameOf (t28 x) = nameS x
  | ⟨_, _, _, _, _⟩ => rfl
mutual
theorem pre_t : ∀ t : S28, preT (t28 t) = (preS t).map t28
  | ⟨a, b, c, d, l⟩ => by
    have e := pre_l l
    show GTree.node a b c d (t28L l) :: preL (t28L l) = _
    rw [e]
    rfl
theorem pre_l : ∀ l : List S28, preL (t28L l) = (preSL l).map t28
  | [] => rfl
  | t :: r => by
    show preT (t28 t) ++ preL (t28L r) = _
    rw [pre_t t, pre_l r, ← List.map_append]
    rfl
end
theorem Names_l {l : List S28} (hl : l.length ≤ 30000) : ∀ (n k i : Nat) (out : List ByteArray), l.length - i = n → n < k → out.length ≤ i →
    rookeryref16_Names.l0 k out l (i : Int) = some (out ++ (l.drop i).filterMap nameS)
  | 0, k + 1, i, out, hn, hk, ho => by
    unfold rookeryref16_Names.l0
    rw [if_neg (by omega), List.drop_eq_nil_of_le (by omega)]
    simp
  | n + 1, k + 1, i, out, hn, hk, ho => by
    have hlt : i < l.length := by omega
    obtain ⟨_, hr, _⟩ := drop_cons (List.drop_eq_getElem_cons hlt)
    have w : wrap64 ((i : Int) + 1) = ((i + 1 : Nat) : Int) := by rw [wrap64_id (by omega) (by omega)]; omega
    have ih := fun o h => Names_l hl n k (i + 1) o (by omega) (by omega) h
    rw [List.drop_eq_getElem_cons hlt, List.filterMap_cons]
    unfold rookeryref16_Names.l0
    have e1 := ih (out ++ [l[i].f1]) (by simp; omega)
    have e2 := ih out (by omega)
    have ho' : out.length < 8796093022208 := by omega
    rw [if_pos (by omega), if_pos (by omega), hr, w]
    simp only [if_pos ho', e1, e2]
    by_cases h2 : l[i].f0 = 2
    · rw [if_pos h2]; simp [nameS, named, h2]
    rw [if_neg h2]
    by_cases h3 : l[i].f0 = 3
    · rw [if_pos h3]; simp [nameS, named, h3]
    rw [if_neg h3]
    by_cases h11 : l[i].f0 = 11
    · rw [if_pos h11]; simp [nameS, named, h11]
    rw [if_neg h11]
    by_cases h17 : l[i].f0 = 17
    · rw [if_pos h17]; simp [nameS, named, h17]
    rw [if_neg h17]
    simp [nameS, named, h2, h3, h11, h17]
theorem Texts_l {l : List ByteArray} (hl : l.length ≤ 30000) : ∀ (n k i : Nat), l.length - i = n → n < k → rookeryref16_Texts.l0 k l l (i : Int) = some true
  | 0, k + 1, i, hn, hk => by
    unfold rookeryref16_Texts.l0
    rw [if_neg (by omega)]
  | n + 1, k + 1, i, hn, hk => by
    have w : wrap64 ((i : Int) + 1) = ((i + 1 : Nat) : Int) := by rw [wrap64_id (by omega) (by omega)]; omega
    unfold rookeryref16_Texts.l0
    rw [if_pos (by omega), if_pos (by omega), if_pos (by omega), if_pos rfl, w]
    exact Texts_l hl n k (i + 1) (by omega) (by omega)
theorem Pure.GramNames (x : S28) (hx : okS x) : ∃ k, rookerylaw16_GramNames.f k x.f0 x.f1 x.f2 x.f3 x.f4 = some true := by
  refine ⟨cF x + 40000, ?_⟩
  unfold rookerylaw16_GramNames.f rookeryref16_Large.f
  obtain ⟨r, hr⟩ := Deeper_f x (cF x + 40000) 10000 hx (by omega) (by omega)
  have hA := All_f x (cF x + 40000) 30000 (by omega) (by omega) (by omega)
  have hB := All_f x (cF x + 40000) 4000 (by omega) (by omega) (by omega)
  have hN := Names_l (l := (preS x).take 4000) (by rw [List.length_take]; omega) ((preS x).take 4000).length (cF x + 40000) 0 [] (by omega) (by rw [List.length_take]; omega) (by simp)
  have hn : (nmT (t28 x) (0, [])).2 = ((preS x).take 4000).filterMap nameS := by
    rw [nmT_pre _ _ _ (by omega), pre_t, ← List.map_take, List.filterMap_map]
    simp only [List.nil_append, Nat.sub_zero]
    congr 1
    funext y
    exact nameOf_t28 y
  have hlen : (((preS x).take 4000).filterMap nameS).length ≤ 4000 := Nat.le_trans (List.length_filterMap_le _ _) (by rw [List.length_take]; omega)
  have hT := Texts_l (l := ((preS x).take 4000).filterMap nameS) (by omega) _ (cF x + 40000) 0 rfl (by omega)
  rw [show ((10000 : Nat) : Int) = 10000 from rfl] at hr
  rw [show ((30000 : Nat) : Int) = 30000 from rfl] at hA
  rw [show ((4000 : Nat) : Int) = 4000 from rfl] at hB
  rw [show ((0 : Nat) : Int) = 0 from rfl, List.drop_zero, List.nil_append] at hN
  rw [show ((0 : Nat) : Int) = 0 from rfl] at hT
  unfold rookeryref16_Names.f gram_Names.f rookeryref16_Texts.f
  rw [hr, hA, hB, show rookerylaw16_alive.f = some true from rfl]
  simp only [Option.bind_some, if_true, hN]
  rw [show (⟨x.f0, x.f1, x.f2, x.f3, x.f4⟩ : S28) = x by cases x; rfl, hn]
  simp only [if_true, hT, Option.bind_some]
  split
  · rfl
  · simp only [Option.bind_some]
    split <;> rfl
end Go.Proofs.YtejidddjkngoiaaDoor
