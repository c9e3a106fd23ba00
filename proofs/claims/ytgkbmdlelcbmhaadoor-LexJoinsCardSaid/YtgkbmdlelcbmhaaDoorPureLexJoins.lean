/- lex, the plain law: LexJoins, the pure statement. -/
import Derived.Test.YtgkbmdlelcbmhaaDoorLpD
import Derived.Test.YtgkbmdlelcbmhaaDoorLpE
import Derived.Test.YtgkbmdlelcbmhaaDoorPLexx3
namespace Go.Proofs.YtgkbmdlelcbmhaaDoor.Pure
open Go.RowKit Go.Proofs.YtgkbmdlelcbmhaaDoor Go.Proofs.YtgkbmdlelcbmhaaDoor.PLex Go.Proofs.YtgkbmdlelcbmhaaDoorW.PrintWords
set_option linter.all false

theorem j3_ok (a : ByteArray) (A B Z : List S33) (n : Nat) (hZ : Z.length ≤ 100000) (hn : n < Z.length) (hsz : a.size ≤ 100000)
    (H : A.length ≤ n → SameS (rd_T33 Z (n : Int)) (rd_T33 B ((n - A.length : Nat) : Int)) ∧ n - A.length < B.length ∧ (rd_T33 Z (n : Int)).f4 = (rd_T33 B ((n - A.length : Nat) : Int)).f4 + (a.size : Int) + 1 ∧ 0 ≤ (rd_T33 B ((n - A.length : Nat) : Int)).f4 ∧ (rd_T33 B ((n - A.length : Nat) : Int)).f4 ≤ 100000)
    (N : Ev (fun k => rookerylaw15_LexJoins.l0 k a A B Z ((n + 1 : Nat) : Int)) true) : Ev (fun k => rookerylaw15_LexJoins.j3 k a A B Z (n : Int) false) true := by
  have w1 := Lib.hid (show wrap64 ((n : Int) + 1) = ((n + 1 : Nat) : Int) from wrapN (by omega))
  refine Ev.succ ?_
  by_cases h : A.length ≤ n
  · obtain ⟨h1, h2, h3, h4, h5⟩ := H h
    have w2 := Lib.hid (show wrap64 ((n : Int) - (A.length : Int)) = ((n - A.length : Nat) : Int) by
      rw [wrap_id' (by omega) (by omega)]
      omega)
    generalize hb : rd_T33 B ((n - A.length : Nat) : Int) = tb at h1 h3 h4 h5
    have w3 := Lib.hid (show wrap64 (wrap64 (tb.f4 + (a.size : Int)) + 1) = tb.f4 + (a.size : Int) + 1 by
      rw [wrap_id' (x := tb.f4 + (a.size : Int)) (by omega) (by omega), wrap_id' (by omega) (by omega)])
    have g1 : (n : Int) ≥ (A.length : Int) := by omega
    have g2 : (n : Int) < (Z.length : Int) := by omega
    have g3 : ((n - A.length : Nat) : Int) < (B.length : Int) := by omega
    simp only [rookerylaw15_LexJoins.j3, w2.out, hb, w3.out, same_self h1, Option.bind_some, w1.out]
    exact Ev.iteF (by simp) (Ev.iteT g1 (Ev.iteT (Int.natCast_nonneg _) (Ev.iteT g2 (Ev.iteT (Int.natCast_nonneg _) (Ev.iteT g3 (Ev.iteT trivial (Ev.iteT h3 N)))))))
  · simp only [rookerylaw15_LexJoins.j3, w1.out]
    exact Ev.iteF (by simp) (Ev.iteF (by omega) N)
theorem joins_loop (a : ByteArray) (hsz : a.size ≤ 100000) (A B : List S33) (hB : ∀ t ∈ B, 0 ≤ t.f4 ∧ t.f4 ≤ 100000) (Z : List S33) (hZ : Z = A ++ B.map (shiftT (a.size + 1))) (hl : Z.length ≤ 100000) : ∀ (r : List S33) (n : Nat), Z.drop n = r →
    Ev (fun k => rookerylaw15_LexJoins.l0 k a A B Z (n : Int)) true
  | [], n, h => by
    have := List.drop_eq_nil_iff.mp h
    refine Ev.succ ?_
    simp only [rookerylaw15_LexJoins.l0]
    exact Ev.iteF (by omega) (Ev.pure _)
  | t :: r, n, h => by
    obtain ⟨h1, h2, h3⟩ := rd_at Z n t r h
    have IH := joins_loop a hsz A B hB Z hZ hl r (n + 1) h3
    have J3 : Ev (fun k => rookerylaw15_LexJoins.j3 k a A B Z (n : Int) false) true := by
      refine j3_ok a A B Z n hl h2 hsz (fun hn => ?_) IH
      have hd : Z.drop n = (B.map (shiftT (a.size + 1))).drop (n - A.length) := by
        rw [hZ, List.drop_append, List.drop_eq_nil_of_le hn, List.nil_append]
      rw [h, ← List.map_drop] at hd
      cases hB2 : B.drop (n - A.length) with
      | nil => rw [hB2] at hd; cases hd
      | cons u q =>
        rw [hB2] at hd
        obtain ⟨e1, e2⟩ := List.cons.inj hd
        obtain ⟨b1, b2, b3⟩ := rd_at B (n - A.length) u q hB2
        have hu : u ∈ B := List.mem_of_mem_drop (by rw [hB2]; simp)
        have hub := hB u hu
        rw [h1, b1, e1]
        refine ⟨⟨rfl, rfl, rfl, rfl⟩, b2, ?_, hub.1, hub.2⟩
        show u.f4 + ((a.size + 1 : Nat) : Int) = u.f4 + (a.size : Int) + 1
        omega
    refine Ev.succ ?_
    simp only [rookerylaw15_LexJoins.l0]
    refine Ev.iteT (by omega) ?_
    by_cases hn : n < A.length
    · have hA : A.drop n = t :: A.drop (n + 1) := by
        have hl2 := List.drop_eq_getElem_cons hn
        have e : Z.drop n = A.drop n ++ B.map (shiftT (a.size + 1)) := by
          rw [hZ]
          exact List.drop_append_of_le_length (by omega)
        rw [h, hl2, List.cons_append] at e
        rw [hl2, (List.cons.inj e).1]
      obtain ⟨a1, a2, a3⟩ := rd_at A n t _ hA
      refine Ev.iteT (by omega) (Ev.iteT (by omega) ?_)
      simp only [h1, a1, same_self (SameS.refl t), Option.bind_some]
      refine Ev.iteT trivial ?_
      rw [show (t.f4 != t.f4) = false by simp]
      exact J3
    · exact Ev.iteF (by omega) J3
theorem j0_true (a b : ByteArray) (A B : List S33) : Ev (fun k => rookerylaw15_LexJoins.j0 k a b A B true) true := by
  refine Ev.succ ?_
  simp only [rookerylaw15_LexJoins.j0]
  exact Ev.iteT trivial (Ev.pure _)
theorem scan_pl : ∀ (m c i : Nat) (l : List UInt8), ∀ t ∈ (scanL m c i l).1, (i : Int) ≤ t.f4 ∧ t.f4 ≤ (i : Int) + (l.length : Int)
  | 0, c, i, l, t, ht => by cases ht
  | m + 1, c, i, l, t, ht => by
    have hgl := gapL_le l false
    have hrl : (l.drop (gapL false l)).length = l.length - gapL false l := List.length_drop
    unfold scanL at ht
    dsimp only at ht
    generalize l.drop (gapL false l) = r at ht hrl
    by_cases hz : r = []
    · rw [if_pos hz] at ht; cases ht
    rw [if_neg hz] at ht
    by_cases hc : c = 4000
    · rw [if_pos hc] at ht; cases ht
    rw [if_neg hc] at ht
    by_cases he : tokE r = 0
    · rw [if_pos he] at ht
      have hn := tokN_ok hz he
      have hdl : (r.drop (tokN r)).length = r.length - tokN r := List.length_drop
      by_cases hx : (scanL m (c + 1) (i + gapL false l + tokN r) (r.drop (tokN r))).2.2 = 0
      · rw [if_pos hx] at ht
        rcases List.mem_cons.mp ht with e | ht
        · rw [e]
          show (i : Int) ≤ ((i + gapL false l : Nat) : Int) ∧ ((i + gapL false l : Nat) : Int) ≤ (i : Int) + (l.length : Int)
          omega
        · have IH := scan_pl m _ _ _ t ht
          omega
      · rw [if_neg hx] at ht; cases ht
    · rw [if_neg he] at ht; cases ht
theorem LexJoins : rookerylaw15_LexJoins.Pure := by
  intro a b ha hb
  refine Ev.ex (a := true) ?_
  unfold rookerylaw15_LexJoins.f
  refine Ev.bind alive_ev (Ev.iteT rfl (Ev.bind (scan_all a) (Ev.bind (scan_all b) ?_)))
  have JT := j0_true a b (scanA a).1 (scanA b).1
  by_cases e1 : (scanA a).2.2 = 0
  · refine Ev.iteT e1 ?_
    by_cases e2 : (scanA b).2.2 = 0
    · refine Ev.iteT e2 ?_
      have w1 : wrap64 (wrap64 ((a.size : Int) + (b.size : Int)) + 1) = ((a.size + b.size + 1 : Nat) : Int) := by
        rw [wrap_id' (x := (a.size : Int) + (b.size : Int)) (by omega) (by omega), wrap_id' (by omega) (by omega)]
        omega
      rw [w1]
      clear w1
      by_cases hs : ((a.size + b.size + 1 : Nat) : Int) > 16384
      · exact Ev.iteT hs JT
      refine Ev.iteF hs ?_
      have la := scanA_len a
      have lb := scanA_len b
      have w2 : ∀ x y : Nat, x ≤ 100000 → y ≤ 100000 → wrap64 ((x : Int) + (y : Int)) = ((x + y : Nat) : Int) := by
        intro x y hx hy
        rw [wrap_id' (by omega) (by omega)]
        omega
      simp only [w2 _ _ (Nat.le_trans la (by decide)) (Nat.le_trans lb (by decide))]
      have W2 := Lib.hid w2
      clear w2
      by_cases hm : (((scanA a).1.length + (scanA b).1.length : Nat) : Int) > 4000
      · rw [decide_eq_true hm]
        exact JT
      rw [decide_eq_false hm]
      -- the three scans
      have sa : ¬ 16384 < a.size := by omega
      have sb : ¬ 16384 < b.size := by omega
      have za : a.data.toList.length = a.size := rfl
      have zb : b.data.toList.length = b.size := rfl
      unfold scanA at e1 e2 hm ⊢
      rw [if_neg sa] at e1 hm ⊢
      rw [if_neg sb] at e2 hm ⊢
      have f1 : (scanL (a.size + 1) 0 0 a.data.toList).2.2 = 0 := by
        by_cases hx : (scanL (a.size + 1) 0 0 a.data.toList).2.2 = 0
        · exact hx
        · rw [if_neg hx] at e1
          exact absurd e1 hx
      have f2 : (scanL (b.size + 1) 0 0 b.data.toList).2.2 = 0 := by
        by_cases hx : (scanL (b.size + 1) 0 0 b.data.toList).2.2 = 0
        · exact hx
        · rw [if_neg hx] at e2
          exact absurd e2 hx
      rw [if_pos f1, if_pos f2] at hm ⊢
      dsimp only at hm ⊢
      have PB := scan_pl (b.size + 1) 0 0 b.data.toList
      have SH := scan_shift (b.size + 1) 0 0 b.data.toList (scanL (a.size + 1) 0 0 a.data.toList).1.length (a.size + 1) f2 (by omega)
      rw [scan_fuel (b.size + 1) (a.size + 1 + b.size + 1) _ _ b.data.toList (by omega) (by omega)] at SH
      have GL := scan_glue (a.size + 1) 0 0 a.data.toList (by omega) f1 (a.size + 1 + b.size + 1) b.data.toList (by omega) (by
        rw [za, show 0 + a.size + 1 = 0 + (a.size + 1) by omega, Nat.zero_add (scanL (a.size + 1) 0 0 a.data.toList).1.length, SH])
      rw [za, show 0 + a.size + 1 = 0 + (a.size + 1) by omega, Nat.zero_add (scanL (a.size + 1) 0 0 a.data.toList).1.length, SH] at GL
      dsimp only at GL
      generalize hA : (scanL (a.size + 1) 0 0 a.data.toList).1 = A at hm GL ⊢
      generalize hB : (scanL (b.size + 1) 0 0 b.data.toList).1 = B at hm GL PB ⊢
      have hz : ((a ++ (⟨#[10]⟩ : ByteArray)) ++ b).data.toList = a.data.toList ++ 10 :: b.data.toList := by
        simp [ByteArray.data_append]
      have hsz : ((a ++ (⟨#[10]⟩ : ByteArray)) ++ b).size = a.size + 1 + b.size := by
        rw [ByteArray.size_append, ByteArray.size_append]
        rfl
      have SZ := scan_all ((a ++ (⟨#[10]⟩ : ByteArray)) ++ b)
      have EZ : scanA ((a ++ (⟨#[10]⟩ : ByteArray)) ++ b) = (A ++ B.map (shiftT (a.size + 1)), 0, 0) := by
        unfold scanA
        rw [hsz, if_neg (by omega), hz, GL]
        rfl
      rw [EZ] at SZ
      have hs1 : (a ++ (⟨#[10]⟩ : ByteArray)).size = a.size + 1 := by
        rw [ByteArray.size_append]
        rfl
      have hlen : (A ++ B.map (shiftT (a.size + 1))).length = A.length + B.length := by simp
      refine Ev.succ ?_
      simp only [rookerylaw15_LexJoins.j0]
      refine Ev.iteF (by simp) (Ev.iteT (by omega) (Ev.iteT (by rw [hs1]; omega) (Ev.bind SZ (Ev.iteT rfl ?_))))
      have hw : ((((A ++ B.map (shiftT (a.size + 1))).length : Nat) : Int) != wrap64 ((A.length : Int) + (B.length : Int))) = false := by
        rw [hlen, W2.out _ _ (by omega) (by omega)]
        simp
      rw [hw]
      refine Ev.succ ?_
      simp only [rookerylaw15_LexJoins.j1]
      refine Ev.iteF (by simp) ?_
      exact joins_loop a (by omega) A B (fun t ht => by have := PB t ht; omega) _ rfl (by omega) _ 0 rfl
    · exact Ev.iteF e2 JT
  · exact Ev.iteF e1 JT
end Go.Proofs.YtgkbmdlelcbmhaaDoor.Pure
