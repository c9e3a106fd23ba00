/- GramYields: names, numbers and bytes of a text stand in its tree in their order (over what the program and the law's own code compute). -/
import Derived.Test.YtejidddjkngoiaaDoorGpO
import Derived.Test.YtejidddjkngoiaaDoorGpG
import Derived.Test.YtejidddjkngoiaaDoorPGramx4
namespace Go.Proofs.YtejidddjkngoiaaDoor
open Go.RowKit Go.Proofs.YtejidddjkngoiaaDoor.PGram Go.Proofs.YtejidddjkngoiaaDoorW.PrintWords
set_option linter.all false

/-! ### What a tree yields, part by part. -/
def nmY : Yd → Option ByteArray
  | .nm s => some s
  | _ => none
def itY : Yd → Option Int
  | .it n => some n
  | _ => none
def byY : Yd → Option Int
  | .by_ x => some x
  | _ => none
def intOf : GTree → Option Int
  | .node kd _ n _ _ => if kd = 1 then some n else none
def bOf : GTree → List Int
  | .node _ _ _ b _ => b
theorem by_nm (b : List Int) : (b.map Yd.by_).filterMap nmY = [] := by induction b <;> simp_all [nmY]
theorem by_it (b : List Int) : (b.map Yd.by_).filterMap itY = [] := by induction b <;> simp_all [itY]
theorem by_by (b : List Int) : (b.map Yd.by_).filterMap byY = b := by induction b <;> simp_all [byY]
theorem yo_nm (kd : Int) (s : ByteArray) (n : Int) (b : List Int) : (yo kd s n b).filterMap nmY = if named kd then [s] else [] := by
  unfold yo
  simp only [List.filterMap_append, by_nm]
  split <;> split <;> simp [nmY]
theorem yo_it (kd : Int) (s : ByteArray) (n : Int) (b : List Int) : (yo kd s n b).filterMap itY = if kd = 1 then [n] else [] := by
  unfold yo
  simp only [List.filterMap_append, by_it]
  split <;> split <;> simp [itY]
theorem yo_by (kd : Int) (s : ByteArray) (n : Int) (b : List Int) : (yo kd s n b).filterMap byY = b := by
  unfold yo
  simp only [List.filterMap_append, by_by]
  cases named kd <;> by_cases h : kd = 1 <;> simp [h, byY, List.filterMap_cons]
mutual
theorem yT_pre : ∀ t : GTree, (yT t).filterMap nmY = (preT t).filterMap nameOf ∧ (yT t).filterMap itY = (preT t).filterMap intOf ∧ (yT t).filterMap byY = (preT t).flatMap bOf ∧ nT t = (preT t).length
  | .node kd s n b l => by
    obtain ⟨h1, h2, h3, h4⟩ := yL_pre l
    unfold yT preT nT
    simp only [List.filterMap_append, yo_nm, yo_it, yo_by, h1, h2, h3, h4, List.filterMap_cons, List.flatMap_cons, List.length_cons, nameOf, intOf, bOf]
    refine ⟨?_, ?_, trivial, trivial⟩
    · cases named kd <;> simp
    · by_cases hk : kd = 1 <;> simp [hk]
theorem yL_pre : ∀ l : List GTree, (yL l).filterMap nmY = (preL l).filterMap nameOf ∧ (yL l).filterMap itY = (preL l).filterMap intOf ∧ (yL l).filterMap byY = (preL l).flatMap bOf ∧ nL l = (preL l).length
  | [] => by simp [yL, preL, nL]
  | t :: r => by
    obtain ⟨h1, h2, h3, h4⟩ := yT_pre t
    obtain ⟨q1, q2, q3, q4⟩ := yL_pre r
    unfold yL preL nL
    simp only [List.filterMap_append, List.flatMap_append, List.length_append, h1, h2, h3, h4, q1, q2, q3, q4, and_self]
end
def nmK (t : GT) : Option ByteArray := if t.kd = 2 ∨ t.kd = 3 then some t.s else none
def itK (t : GT) : Option Int := if t.kd = 1 then some t.n else none
theorem yK_all : ∀ T : List GT, (T.flatMap yK).filterMap nmY = T.filterMap nmK ∧ (T.flatMap yK).filterMap itY = T.filterMap itK ∧ (T.flatMap yK).filterMap byY = T.flatMap GT.b
  | [] => by simp
  | t :: T => by
    obtain ⟨h1, h2, h3⟩ := yK_all T
    simp only [List.flatMap_cons, List.filterMap_append, h1, h2, h3, List.filterMap_cons, yK, by_nm, by_it, by_by, nmK, itK]
    refine ⟨?_, ?_, ?_⟩
    · by_cases a : t.kd = 2 ∨ t.kd = 3 <;> by_cases c : t.kd = 1 <;> simp [a, c, nmY]
    · by_cases a : t.kd = 2 ∨ t.kd = 3 <;> by_cases c : t.kd = 1 <;> simp [a, c, itY]
    · by_cases a : t.kd = 2 ∨ t.kd = 3 <;> by_cases c : t.kd = 1 <;> simp [a, c, byY]
/-- Of a tree that tokens are. -/
theorem parse_yields {T : List GT} (hT : GoodT T) (hl : T.length ≤ 4000) {t : GTree} {j : Nat} (h : parseS T = .ok t j) :
    (preT t).filterMap nameOf = T.filterMap nmK ∧ (preT t).filterMap intOf = T.filterMap itK ∧ (preT t).flatMap bOf = T.flatMap GT.b ∧ (preT t).length ≤ 4000 := by
  unfold parseS at h
  cases hf : funsS T (T.length + 1) 0 [] with
  | bad k c => rw [hf] at h; cases h
  | ok l k =>
    rw [hf] at h
    cases h
    obtain ⟨h0, q, hq, h1, h2⟩ := funs_y hT (T.length + 1) 0 [] (by omega) l _ hf
    obtain rfl : q = l := hq.symm
    have hn : nL q + 1 ≤ 4000 := by
      rcases h2 with rfl | h2
      · simp [nL]
      · have hj : j ≤ T.length := by
          have := OnW_funs T (T.length + 1) 0 [] (Nat.zero_le _) _ _ hf
          omega
        omega
    have e : yT (.node 18 gE 0 [] q) = T.flatMap yK := by
      rw [node_y 18 (by decide) (by decide)]
      have : pY T j = T.flatMap yK := by unfold pY; rw [List.take_of_length_le h0]
      rw [← this, h1]
      simp [pY]
    obtain ⟨y1, y2, y3, y4⟩ := yT_pre (.node 18 gE 0 [] q)
    obtain ⟨k1, k2, k3⟩ := yK_all T
    rw [← y1, ← y2, ← y3, ← y4, e, k1, k2, k3]
    exact ⟨rfl, rfl, rfl, by simp only [nT]; exact hn⟩
/-! ### The law's loops. -/
theorem str_app (a b : List Int) : strOfNums (a ++ b) = strOfNums a ++ strOfNums b := by
  apply ByteArray.ext
  apply Array.ext'
  simp [strOfNums, ByteArray.data_append]
theorem loop_alls (s : ByteArray) : ∀ (d i : Nat) (r : List UInt8), s.size - i = d → ByteArray.toList.loop s i r = r.reverse ++ s.data.toList.drop i
  | 0, i, r, h => by
    unfold ByteArray.toList.loop
    have hz : s.data.toList.length = s.size := rfl
    rw [if_neg (by omega), List.drop_eq_nil_of_le (by omega), List.append_nil]
  | d + 1, i, r, h => by
    unfold ByteArray.toList.loop
    have hz : s.data.toList.length = s.size := rfl
    have hl : i < s.data.toList.length := by omega
    rw [if_pos (by omega), loop_alls s d (i + 1) _ (by omega), List.drop_eq_getElem_cons hl]
    have e : s.get! i = s.data.toList[i] := by
      show s.data[i]! = _
      rw [getElem!_pos s.data i (by exact hl)]
      rfl
    rw [e]
    simp
theorem toList_alls (s : ByteArray) : s.toList = s.data.toList := by
  unfold ByteArray.toList
  rw [loop_alls s _ 0 [] rfl]
  simp
theorem nil_list : (strOfNums []).toList = [] := by rw [toList_alls]; rfl
theorem str_len (a : List Int) : (strOfNums a).size = a.length := strOfNums_size a
theorem str_cut (a b : List Int) : (strOfNums (a ++ b)).extract 0 a.length = strOfNums a ∧ (strOfNums (a ++ b)).extract a.length (strOfNums (a ++ b)).size = strOfNums b := by
  constructor
  · apply ByteArray.ext
    apply Array.ext'
    simp [strOfNums, ByteArray.data_extract]
  · apply ByteArray.ext
    apply Array.ext'
    rw [str_len]
    simp [strOfNums, ByteArray.data_extract]
    rw [List.take_of_length_le (by simp)]
def nmP (t : S44) : Option ByteArray := if t.f0 = 2 ∨ t.f0 = 3 then some t.f1 else none
def itP (t : S44) : Option Int := if t.f0 = 1 then some t.f2 else none
def itN (t : S28) : Option Int := if t.f0 = 1 then some t.f2 else none
theorem tok_at (L : List S44) (n : Nat) (t : S44) (r : List S44) (h : L.drop n = t :: r) : rd_T44 L (n : Int) = t ∧ n < L.length ∧ L.drop (n + 1) = r := by
  have hl : n < L.length := by
    rcases Nat.lt_or_ge n L.length with h' | h'
    · exact h'
    · rw [List.drop_eq_nil_of_le h'] at h; cases h
  rw [List.drop_eq_getElem_cons hl] at h
  obtain ⟨h1, h2⟩ := List.cons.inj h
  refine ⟨?_, hl, h2⟩
  unfold rd_T44
  simp [List.getD_eq_getElem?_getD, List.getElem?_eq_getElem hl, h1]
theorem filter_len {α β : Type} (f : α → Option β) (l : List α) : (l.filterMap f).length ≤ l.length := List.length_filterMap_le f l
section
variable {L : List S44} (hL : L.length ≤ 4000) (hb : ∀ t ∈ L, t.f3.length ≤ 16384) (a : Int) (s : ByteArray) (n : Int) (b : List Int) (l : List S28)
include hL hb
theorem y0_ev : ∀ (r : List S44) (i : Nat) (x8 : List ByteArray) (x9 : List Int) (x10 : ByteArray), L.drop i = r → x8.length ≤ i → x9.length ≤ i → x10.size ≤ i * 16384 →
    Ev (fun k => (rookeryref16_All.f k a s n b l 30000).bind fun t207 => rookerylaw16_GramYields.l1 k 0 (x8 ++ r.filterMap nmP) (x9 ++ r.filterMap itP) (x10 ++ strOfNums (r.flatMap fun t => t.f3)) t207 0 a s n b l) true →
    Ev (fun k => rookerylaw16_GramYields.l0 k L x8 x9 x10 (i : Int) a s n b l) true
  | [], i, x8, x9, x10, hr, h8, h9, h10, h => by
    have hi := List.drop_eq_nil_iff.1 hr
    refine Ev.succ (Ev.iteF (by omega) (h.cast fun k => ?_))
    simp only [List.filterMap_nil, List.append_nil, List.flatMap_nil]
    rw [show x10 ++ strOfNums [] = x10 from by apply ByteArray.ext; apply Array.ext'; simp [strOfNums]]
  | t :: r, i, x8, x9, x10, hr, h8, h9, h10, h => by
    obtain ⟨h1, h2, h3⟩ := tok_at L i t r hr
    have ht : t ∈ L := List.mem_of_mem_drop (by rw [hr]; simp)
    have hsz := hb t ht
    have hw : wrap64 ((i : Int) + 1) = ((i + 1 : Nat) : Int) := wrapN (by omega)
    have hs10 : x10.size + (strOfNums t.f3).size ≤ 9223372036854775807 := by rw [str_len]; omega
    have h10' : (x10 ++ strOfNums t.f3).size ≤ (i + 1) * 16384 := by rw [ByteArray.size_append, str_len]; omega
    have N := fun x8' x9' a1 a2 => y0_ev r (i + 1) x8' x9' (x10 ++ strOfNums t.f3) h3 a1 a2 h10'
    have e10 : (x10 ++ strOfNums t.f3) ++ strOfNums (r.flatMap fun t => t.f3) = x10 ++ strOfNums ((t :: r).flatMap fun t => t.f3) := by
      rw [List.flatMap_cons, str_app]
      apply ByteArray.ext
      apply Array.ext'
      simp [ByteArray.data_append]
    -- the round, whatever is found
    have J : ∀ q : Bool, q = decide (t.f0 = 2 ∨ t.f0 = 3) → Ev (fun k => rookerylaw16_GramYields.j1 k L x8 x9 x10 (i : Int) q a s n b l) true := by
      intro q hq
      refine Ev.succ ?_
      simp only [rookerylaw16_GramYields.j1, h1, hw, Option.bind_some]
      by_cases h23 : t.f0 = 2 ∨ t.f0 = 3
      · rw [hq, decide_eq_true h23]
        refine Ev.iteT rfl (Ev.iteT (by omega) (Ev.iteT (by omega) (Ev.iteT (by omega) (Ev.iteF (by omega) (Ev.iteT hs10 (N _ _ (by simp; omega) (by omega) ?_))))))
        refine h.cast fun k => ?_
        rw [e10, List.filterMap_cons, List.filterMap_cons]
        simp only [nmP, itP, if_pos h23, if_neg (show ¬ t.f0 = 1 by omega), List.append_assoc, List.cons_append, List.nil_append]
      · rw [hq, decide_eq_false h23]
        refine Ev.iteF (by simp) (Ev.iteT (by omega) (Ev.iteT (by omega) ?_))
        by_cases h4 : t.f0 = 1
        · refine Ev.iteT h4 (Ev.iteT (by omega) (Ev.iteT hs10 (N _ _ (by omega) (by simp; omega) ?_)))
          refine h.cast fun k => ?_
          rw [e10, List.filterMap_cons, List.filterMap_cons]
          simp only [nmP, itP, if_neg h23, if_pos h4, List.append_assoc, List.cons_append, List.nil_append]
        · refine Ev.iteF h4 (Ev.iteT hs10 (N _ _ (by omega) (by omega) ?_))
          refine h.cast fun k => ?_
          rw [e10, List.filterMap_cons, List.filterMap_cons]
          simp only [nmP, itP, if_neg h23, if_neg h4]
    refine Ev.succ ?_
    simp only [rookerylaw16_GramYields.l0, h1]
    refine Ev.iteT (by omega) (Ev.iteT (by omega) ?_)
    by_cases h5 : t.f0 = 2
    · exact Ev.iteT h5 (J true (by simp [h5]))
    · refine Ev.iteF h5 (J (t.f0 == 3) ?_)
      rw [Bool.eq_iff_iff]
      simp [h5]
end
theorem int_at (I : List Int) (n : Nat) (v : Int) (r : List Int) (h : I.drop n = v :: r) : rd I (n : Int) = v ∧ n < I.length ∧ I.drop (n + 1) = r := by
  have hl : n < I.length := by
    rcases Nat.lt_or_ge n I.length with h' | h'
    · exact h'
    · rw [List.drop_eq_nil_of_le h'] at h; cases h
  rw [List.drop_eq_getElem_cons hl] at h
  obtain ⟨h1, h2⟩ := List.cons.inj h
  refine ⟨?_, hl, h2⟩
  unfold rd
  simp [List.getD_eq_getElem?_getD, List.getElem?_eq_getElem hl, h1]
section
variable {A : List S28} (hA : A.length ≤ 4000) {I : List Int} (hI : I.length ≤ 4000) {W : List ByteArray} (a : Int) (s : ByteArray) (n : Int) (b : List Int) (l : List S28) (hend : Ev (fun k => (gram_Names.f a s n b l).bind fun t210 => (rookeryref16_Texts.f k t210 W).bind fun t213 => some t213) true)
include hA hI hend
theorem y1_ev : ∀ (r : List S28) (i at_ : Nat) (x10 : ByteArray), A.drop i = r → I.drop at_ = r.filterMap itN → at_ ≤ I.length → x10 = strOfNums (r.flatMap fun t => t.f3) →
    Ev (fun k => rookerylaw16_GramYields.l1 k (at_ : Int) W I x10 A (i : Int) a s n b l) true
  | [], i, at_, x10, hr, hi, hle, hx => by
    have h1 := List.drop_eq_nil_iff.1 hr
    have h2 := List.drop_eq_nil_iff.1 (show I.drop at_ = [] from hi)
    have h3 : x10.toList = [] := by
      rw [hx]
      exact nil_list
    refine Ev.succ ?_
    simp only [rookerylaw16_GramYields.l1]
    exact Ev.iteF (by omega) (Ev.iteT (by omega) (Ev.iteT h3 hend))
  | t :: r, i, at_, x10, hr, hi, hle, hx => by
    obtain ⟨h1, h2, h3⟩ := dropT_cons hr
    have hw : wrap64 ((i : Int) + 1) = ((i + 1 : Nat) : Int) := wrapN (by omega)
    have hw2 : wrap64 ((at_ : Int) + 1) = ((at_ + 1 : Nat) : Int) := wrapN (by omega)
    rw [List.flatMap_cons] at hx
    obtain ⟨c1, c2⟩ := str_cut t.f3 (r.flatMap fun t => t.f3)
    rw [← hx] at c1 c2
    have hsz : x10.size = t.f3.length + (r.flatMap fun t => t.f3).length := by rw [hx, str_len, List.length_append]
    have g1 : ¬ ((x10.size : Int) < (t.f3.length : Int)) := by omega
    have g2 : (t.f3.length : Int) ≤ (x10.size : Int) := by omega
    have c1' : (x10.extract 0 ((t.f3.length : Int)).toNat).toList = (strOfNums t.f3).toList := by rw [Int.toNat_natCast, c1]
    have c2' : x10.extract ((t.f3.length : Int)).toNat x10.size = strOfNums (r.flatMap fun t => t.f3) := by rw [Int.toNat_natCast, c2]
    refine Ev.succ ?_
    simp only [rookerylaw16_GramYields.l1, h2]
    refine Ev.iteT (by omega) (Ev.iteT (by omega) ?_)
    by_cases h4 : t.f0 = 1
    · rw [List.filterMap_cons] at hi
      simp only [itN, if_pos h4] at hi
      obtain ⟨i1, i2, i3⟩ := int_at I at_ _ _ hi
      refine Ev.iteT h4 (Ev.iteF (by omega) (Ev.iteT (by omega) (Ev.iteT (by omega) ?_)))
      rw [i1, show (t.f2 != t.f2) = false by simp]
      refine Ev.succ ?_
      simp only [rookerylaw16_GramYields.j3, h2, hw, hw2, c2']
      exact Ev.iteF (by simp) (Ev.iteT (by omega) (Ev.iteT (by omega) (Ev.iteF g1 (Ev.iteT (by omega) (Ev.iteT g2 (Ev.iteT c1' (y1_ev r (i + 1) (at_ + 1) _ h3 i3 (by omega) rfl)))))))
    · rw [List.filterMap_cons] at hi
      simp only [itN, if_neg h4] at hi
      rw [hw, c2']
      exact Ev.iteF h4 (Ev.iteF g1 (Ev.iteT (by omega) (Ev.iteT g2 (Ev.iteT c1' (y1_ev r (i + 1) at_ _ h3 hi hle rfl)))))
end
mutual
theorem pre_s : ∀ t : GTree, preS (s28 t) = (preT t).map s28
  | .node kd s n b l => by
    have e := pre_sl l
    show (⟨kd, s, n, b, s28L l⟩ : S28) :: preSL (s28L l) = _
    rw [e]
    rfl
theorem pre_sl : ∀ l : List GTree, preSL (s28L l) = (preL l).map s28
  | [] => rfl
  | t :: r => by
    show preS (s28 t) ++ preSL (s28L r) = _
    rw [pre_s t, pre_sl r, ← List.map_append]
    rfl
end
mutual
theorem t28_s28 : ∀ t : GTree, t28 (s28 t) = t
  | .node kd s n b l => by
    show GTree.node kd s n b (t28L (s28L l)) = _
    rw [t28L_s28L l]
theorem t28L_s28L : ∀ l : List GTree, t28L (s28L l) = l
  | [] => rfl
  | t :: r => by
    show t28 (s28 t) :: t28L (s28L r) = _
    rw [t28_s28 t, t28L_s28L r]
end
end Go.Proofs.YtejidddjkngoiaaDoor
namespace Go.Proofs.YtejidddjkngoiaaDoor.Pure
open Go.RowKit Go.Proofs.YtejidddjkngoiaaDoor Go.Proofs.YtejidddjkngoiaaDoor.PGram Go.Proofs.YtejidddjkngoiaaDoorW.PrintWords Go.Proofs.YtejidddjkngoiaaDoorW.PrintLast
theorem GramYields : rookerylaw16_GramYields.Pure := by
  intro a0 _
  refine Ev.ex (a := true) ?_
  unfold rookerylaw16_GramYields.f
  refine Ev.bind (f := fun _ => rookerylaw16_alive.f) (a := true) (Ev.pure _) (Ev.iteT rfl (Ev.bind (scan_all a0) ?_))
  obtain ⟨hL, hF⟩ := scan_facts a0
  have hP := scan_parse a0
  generalize scanA a0 = S at hL hF hP ⊢
  by_cases h0 : S.2.2 = 0
  · refine Ev.iteT h0 ?_
    have hlen : (S.1.map g44).length = S.1.length := by simp
    have hgood : GoodT (S.1.map g44) := by
      intro t ht
      obtain ⟨x, hx, rfl⟩ := List.mem_map.1 ht
      exact (hF x hx).2
    cases hr : parseS (S.1.map g44) with
    | bad i c =>
      have hp : gram_Parse.f S.1 = some (0, ⟨#[]⟩, 0, [], [], (i : Int), c) := by unfold gram_Parse.f; rw [if_pos hP, hr]
      obtain ⟨b1, b2⟩ := parse_b _ i c hr
      rw [hlen] at b1
      refine Ev.bind (f := fun _ => gram_Parse.f S.1) ((Ev.pure _).cast fun _ => hp) (Ev.iteF (by dsimp only; omega) (Ev.iteT (by dsimp only; omega) (Ev.iteT (by dsimp only; omega) (Ev.pure _))))
    | ok t j =>
      obtain ⟨y1, y2, y3, y4⟩ := parse_yields hgood (by omega) hr
      obtain ⟨kd, s, n, b, l⟩ := t
      have hp : gram_Parse.f S.1 = some (kd, s, n, b, s28L l, 0, 0) := by unfold gram_Parse.f; rw [if_pos hP, hr]
      refine Ev.bind (f := fun _ => gram_Parse.f S.1) ((Ev.pure _).cast fun _ => hp) (Ev.iteT rfl ?_)
      dsimp only
      have hx : (⟨kd, s, n, b, s28L l⟩ : S28) = s28 (.node kd s n b l) := rfl
      have hpre := pre_s (.node kd s n b l)
      generalize hg : GTree.node kd s n b l = t at y1 y2 y3 y4 hx hpre
      refine y0_ev hL (fun x hx => (hF x hx).1) kd s n b (s28L l) S.1 0 [] [] ⟨#[]⟩ rfl (by simp) (by simp) (by decide) ?_
      have hAll : Ev (fun k => rookeryref16_All.f k kd s n b (s28L l) 30000) ((preT t).map s28) := by
        refine Ev.of (rookeryref16_All.mono kd s n b (s28L l) 30000) (k := cF (s28 t)) ?_
        have := All_f (⟨kd, s, n, b, s28L l⟩ : S28) (cF (s28 t)) 30000 (by rw [hx]; omega) (by omega) (by omega)
        rw [hx, hpre, List.take_of_length_le (by simp; omega)] at this
        rw [← hg] at this ⊢
        exact this
      refine Ev.bind hAll ?_
      have e0 : (⟨#[]⟩ : ByteArray) ++ strOfNums (S.1.flatMap fun t => t.f3) = strOfNums (((preT t).map s28).flatMap fun t => t.f3) := by
        have q : ((preT t).map s28).flatMap (fun t => t.f3) = S.1.flatMap fun t => t.f3 := by
          have h1 : ((preT t).map s28).flatMap (fun t => t.f3) = (preT t).flatMap bOf := by
            rw [List.flatMap_map]
            congr 1
            funext u
            cases u
            rfl
          rw [h1, y3, List.flatMap_map]
          rfl
        rw [q]
        apply ByteArray.ext
        apply Array.ext'
        simp [ByteArray.data_append]
      refine y1_ev (by simp; omega) (I := [] ++ S.1.filterMap itP) (by have := filter_len itP S.1; simp only [List.nil_append]; omega) kd s n b (s28L l) ?_ ((preT t).map s28) 0 0 _ rfl ?_ (Nat.zero_le _) e0
      · have hn : gram_Names.f kd s n b (s28L l) = some (S.1.filterMap nmP) := by
          unfold gram_Names.f
          rw [hx, t28_s28, nmT_pre _ _ _ (by omega)]
          simp only [List.nil_append, Nat.sub_zero]
          rw [List.take_of_length_le y4, y1, List.filterMap_map]
          rfl
        rw [hn]
        refine Ev.bind (f := fun _ => some (S.1.filterMap nmP)) (Ev.pure _) (Ev.bind (a := true) ?_ (Ev.pure _))
        have hlN := filter_len nmP S.1
        refine Ev.of (rookeryref16_Texts.mono _ _) (k := 5000) ?_
        unfold rookeryref16_Texts.f
        rw [List.nil_append, if_pos rfl]
        exact Texts_l (by omega) _ 5000 0 rfl (by omega)
      · rw [List.drop_zero, List.nil_append, List.filterMap_map]
        have : (itN ∘ s28) = intOf := by
          funext u
          cases u
          rfl
        rw [this, y2, List.filterMap_map]
        rfl
  · exact Ev.iteF h0 (Ev.pure _)
end Go.Proofs.YtejidddjkngoiaaDoor.Pure
