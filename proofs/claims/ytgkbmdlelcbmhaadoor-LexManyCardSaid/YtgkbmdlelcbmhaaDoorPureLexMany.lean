/- lex, the plain law: LexMany, the pure statement. -/
import Derived.Test.YtgkbmdlelcbmhaaDoorLp5
namespace Go.Proofs.YtgkbmdlelcbmhaaDoor.Pure
open Go.RowKit Go.Proofs.YtgkbmdlelcbmhaaDoor Go.Proofs.YtgkbmdlelcbmhaaDoor.PLex Go.Proofs.YtgkbmdlelcbmhaaDoorW.PrintWords
set_option linter.all false

theorem j3_low (x0 : Nat) (b : Bool) (l : List S33) (h : x0 ≤ 4000) (hl : l.length = x0) : Ev (fun k => rookerylaw15_LexMany.j3 k (x0 : Int) b l 0 0) true := by
  refine Ev.succ ?_
  simp only [rookerylaw15_LexMany.j3]
  exact Ev.iteT (by omega) (Ev.iteT (by omega) (Ev.iteT (by simp) (Ev.pure _)))
theorem j3_hiT (x0 : Nat) (h : 4000 < x0) : Ev (fun k => rookerylaw15_LexMany.j3 k (x0 : Int) true [] 4000 155) true := by
  refine Ev.succ ?_
  simp only [rookerylaw15_LexMany.j3]
  refine Ev.iteF (by omega) ?_
  exact ⟨0, fun _ _ => rfl⟩
theorem j3_hiF (x0 : Nat) (h : 4000 < x0) : Ev (fun k => rookerylaw15_LexMany.j3 k (x0 : Int) false [] 8000 155) true := by
  refine Ev.succ ?_
  simp only [rookerylaw15_LexMany.j3]
  refine Ev.iteF (by omega) ?_
  exact ⟨0, fun _ _ => rfl⟩
theorem scanA_arr (l : List UInt8) (h : l.length ≤ 16384) : scanA (arr l) = if (scanL (l.length + 1) 0 0 l).2.2 = 0 then ((scanL (l.length + 1) 0 0 l).1, 0, 0) else ([], (scanL (l.length + 1) 0 0 l).2) := by
  have hz : (arr l).size = l.length := by simp [arr, ByteArray.size]
  have hd : (arr l).data.toList = l := by simp [arr]
  unfold scanA
  rw [hz, hd, if_neg (by omega)]
theorem LexMany : rookerylaw15_LexMany.Pure := by
  intro a0 a1 _
  refine Ev.ex (a := true) ?_
  unfold rookerylaw15_LexMany.f
  refine Ev.bind alive_ev (Ev.iteT rfl ?_)
  by_cases h1 : a0 < 0
  · refine Ev.iteT h1 (Ev.succ ?_)
    simp only [rookerylaw15_LexMany.j0]
    exact Ev.iteT (by simp) (Ev.pure _)
  refine Ev.iteF h1 (Ev.succ ?_)
  simp only [rookerylaw15_LexMany.j0]
  by_cases h2 : a0 > 8000
  · exact Ev.iteT (decide_eq_true h2) (Ev.pure _)
  refine Ev.iteF (by simpa using h2) ?_
  obtain ⟨n, rfl⟩ := Int.eq_ofNat_of_zero_le (Int.not_lt.mp h1)
  cases a1 with
  | true =>
    refine Ev.iteT rfl (Ev.succ ?_)
    have e0 : wrap64 (Int.tdiv (n : Int) 2) = ((n / 2 : Nat) : Int) := by
      have : Int.tdiv (n : Int) 2 = ((n / 2 : Nat) : Int) := rfl
      rw [this]
      unfold wrap64
      omega
    simp only [rookerylaw15_LexMany.j1, e0]
    refine many_loop ((n / 2 : Nat) : Int) true [44, 44] rfl true (n / 2) 0 [] (by omega) (by omega) rfl ?_
    have e1 : wrap64 (2 * ((n / 2 : Nat) : Int)) = ((2 * (n / 2) : Nat) : Int) := by unfold wrap64; omega
    rw [e1, List.nil_append, rep_two]
    have hz : (rep [44] (2 * (n / 2))).length = 2 * (n / 2) := by rw [rep_length]; simp
    have S := scan_all (arr (rep [44] (2 * (n / 2))))
    rw [scanA_arr _ (by omega), hz] at S
    have M := many_c (2 * (n / 2)) 0 0 (2 * (n / 2) + 1) (by omega) (by omega)
    by_cases h3 : 2 * (n / 2) ≤ 4000
    · obtain ⟨M1, M2⟩ := M.1 (by omega)
      rw [if_pos (by rw [M2])] at S
      exact Ev.bind S (Ev.iteT rfl (j3_low _ _ _ h3 M1))
    · have M2 := M.2 (by omega)
      rw [if_neg (by rw [M2]; simp), M2] at S
      exact Ev.bind S (Ev.iteT rfl (j3_hiT _ (by omega)))
  | false =>
    refine Ev.iteF (by simp) (Ev.succ ?_)
    simp only [rookerylaw15_LexMany.j1]
    refine many_loop (n : Int) false [97, 32] rfl true n 0 [] (by omega) (by omega) rfl ?_
    rw [List.nil_append]
    have hz : (rep [97, 32] n).length = 2 * n := by rw [rep_length]; simp; omega
    have S := scan_all (arr (rep [97, 32] n))
    rw [scanA_arr _ (by omega), hz] at S
    have hg : gapL false (rep [97, 32] n) = 0 := by cases n <;> rfl
    have M := many_a n 0 0 (2 * n + 1) 0 (rep [97, 32] n) hg rfl (by omega) (by omega)
    by_cases h3 : n ≤ 4000
    · obtain ⟨M1, M2⟩ := M.1 (by omega)
      rw [if_pos (by rw [M2])] at S
      exact Ev.bind S (Ev.iteF (by simp) (j3_low _ _ _ h3 M1))
    · have M2 := M.2 (by omega)
      rw [if_neg (by rw [M2]; simp), M2] at S
      exact Ev.bind S (Ev.iteF (by simp) (j3_hiF _ (by omega)))
end Go.Proofs.YtgkbmdlelcbmhaaDoor.Pure
