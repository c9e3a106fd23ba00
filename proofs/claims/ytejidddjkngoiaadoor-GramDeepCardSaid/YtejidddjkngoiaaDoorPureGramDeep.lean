/- GramDeep: forty may be within one another, and not one more; where that is told (over what the program and the law's own code compute). -/
import Derived.Test.YtejidddjkngoiaaDoorGpF
import Derived.OpenShut
namespace Go.Proofs.YtejidddjkngoiaaDoor
open Go.RowKit Go.Proofs.YtejidddjkngoiaaDoor.PGram Go.Proofs.YtejidddjkngoiaaDoorW.PrintWords
set_option linter.all false

abbrev dHs : List ByteArray := [(⟨#[40]⟩ : ByteArray), (⟨#[123]⟩ : ByteArray), (⟨#[91]⟩ : ByteArray), (⟨#[45, 32]⟩ : ByteArray), (⟨#[97, 40]⟩ : ByteArray), (⟨#[120, 32, 61, 32]⟩ : ByteArray), (⟨#[120, 32, 33, 32]⟩ : ByteArray), (⟨#[99, 97, 115, 101, 32, 120, 32, 111, 102, 32, 121, 32, 45, 62, 32]⟩ : ByteArray), (⟨#[114, 101, 99, 101, 105, 118, 101, 32, 121, 32, 45, 62, 32]⟩ : ByteArray)]
abbrev dEs : List ByteArray := [(⟨#[41]⟩ : ByteArray), (⟨#[125]⟩ : ByteArray), (⟨#[93]⟩ : ByteArray), (⟨#[]⟩ : ByteArray), (⟨#[41]⟩ : ByteArray), (⟨#[]⟩ : ByteArray), (⟨#[]⟩ : ByteArray), (⟨#[32, 101, 110, 100]⟩ : ByteArray), (⟨#[32, 101, 110, 100]⟩ : ByteArray)]
abbrev dLs : List Int := [0, 0, 0, 0, 1, 1, 1, 0, 0]
abbrev dMs : List Int := [1, 1, 1, 1, 2, 2, 2, 5, 3]
theorem tabs (k : Nat) (hk : k < 9) : (rdOf ByteArray.empty dHs (k : Int)).data.toList = hdL k ∧ (rdOf ByteArray.empty dEs (k : Int)).data.toList = enL k ∧ rd dMs (k : Int) = (manyT k : Int) ∧ rd dLs (k : Int) = (leadT k : Int) ∧ (hdL k).length ≤ 15 ∧ (enL k).length ≤ 4 ∧ manyT k ≤ 5 ∧ leadT k ≤ 1 ∧ manyE k ≤ 1 := by
  rcases k9 hk with rfl | rfl | rfl | rfl | rfl | rfl | rfl | rfl | rfl <;> exact ⟨by rfl, by rfl, by rfl, by rfl, by decide, by decide, by decide, by decide, by decide⟩
theorem deepL_len (k n : Nat) : (deepL k n).length = 9 + n * (hdL k).length + n * (enL k).length := by
  unfold deepL
  simp only [List.length_cons, List.length_append, repL_len, List.length_nil]
  omega
theorem bytes_app (a b : ByteArray) : (a ++ b).data.toList = a.data.toList ++ b.data.toList := by simp [ByteArray.data_append]
theorem size_list (a : ByteArray) : a.size = a.data.toList.length := by simp
theorem wr_at (a b : Nat) (ha : a ≤ 5) (hb : b ≤ 1) : wrap64 (wrap64 (4 + wrap64 ((a : Int) * 40)) + (b : Int)) = ((4 + 40 * a + b : Nat) : Int) := by
  unfold wrap64
  omega
section
variable {k n : Nat} (hk : k < 9) (hn : n ≤ 300)
include hk hn
theorem deep_small : (deepL k n).length ≤ 16000 ∧ (deepT k n).length ≤ 4000 := by
  obtain ⟨_, _, _, _, h1, h2, h3, _, h4⟩ := tabs k hk
  rw [deepL_len, deepT_len]
  have e1 : n * (hdL k).length ≤ 300 * 15 := Nat.mul_le_mul hn h1
  have e2 : n * (enL k).length ≤ 300 * 4 := Nat.mul_le_mul hn h2
  have e3 : n * manyT k ≤ 300 * 5 := Nat.mul_le_mul hn h3
  have e4 : n * manyE k ≤ 300 * 1 := Nat.mul_le_mul hn h4
  omega
theorem l1_ev : ∀ (m i : Nat) (x : ByteArray), i + m = n → x.data.toList ++ (repL (enL k) m ++ [46]) = deepL k n → Ev (fun q => rookerylaw16_GramDeep.l1 q (n : Int) dEs dLs dMs (k : Int) x (i : Int)) true
  | 0, i, x, hi, hx => by
    obtain rfl : i = n := by omega
    obtain ⟨hL, hT⟩ := deep_small hk hn
    obtain ⟨_, _, t3, t4, _, _, b1, b2, _⟩ := tabs k hk
    have hs : (x ++ (⟨#[46]⟩ : ByteArray)).data.toList = deepL k i := by rw [bytes_app]; exact hx
    have hz : (x ++ (⟨#[46]⟩ : ByteArray)).size ≤ 16384 := by rw [size_list, hs]; omega
    have hz1 : x.size + 1 ≤ 9223372036854775807 := by
      have e := congrArg List.length hx
      rw [List.length_append] at e
      have := size_list x
      omega
    obtain ⟨r, hr, h1, h2⟩ := parse_ev hk hs hz hT
    have hlast : (fun (_ : Nat) (bt : Int × ByteArray × Int × List Int × List S28 × Int × Int) => (if (i : Int) ≤ 40 then (if bt.2.2.2.2.2.2 = 0 then (if bt.2.2.2.2.2.1 = 0 then (some (bt.1 == 18)) else (some false)) else (some false)) else (if bt.2.2.2.2.2.2 = 161 then (if 0 ≤ (k : Int) then (if (k : Int) < ((dMs.length : Nat) : Int) then (if (k : Int) < ((dLs.length : Nat) : Int) then (some (bt.2.2.2.2.2.1 == (wrap64 ((wrap64 (4 + (wrap64 ((rd dMs (k : Int)) * 40)))) + (rd dLs (k : Int)))))) else (none)) else (none)) else (none)) else (some false)) : Option Bool)) 0 r = some true := by
      by_cases h40 : i ≤ 40
      · obtain ⟨q1, q2, q3⟩ := h1 h40
        simp only
        rw [if_pos (by omega), if_pos q3, if_pos q2, q1]
        rfl
      · obtain ⟨q1, q2⟩ := h2 (by omega)
        simp only
        rw [if_neg (by omega), if_pos q2, if_pos (by omega), if_pos (by simp; omega), if_pos (by simp; omega), q1, t3, t4]
        rw [wr_at (manyT k) (leadT k) b1 b2]
        exact congrArg some (beq_self_eq_true _)
    refine Ev.succ ((Ev.bind hr (g := fun _ bt => (if (i : Int) ≤ 40 then (if bt.2.2.2.2.2.2 = 0 then (if bt.2.2.2.2.2.1 = 0 then (some (bt.1 == 18)) else (some false)) else (some false)) else (if bt.2.2.2.2.2.2 = 161 then (if 0 ≤ (k : Int) then (if (k : Int) < ((dMs.length : Nat) : Int) then (if (k : Int) < ((dLs.length : Nat) : Int) then (some (bt.2.2.2.2.2.1 == (wrap64 ((wrap64 (4 + (wrap64 ((rd dMs (k : Int)) * 40)))) + (rd dLs (k : Int)))))) else (none)) else (none)) else (none)) else (some false)) : Option Bool)) ((Ev.pure true).cast fun _ => hlast)).cast fun q => ?_)
    show rookerylaw16_GramDeep.l1 (q + 1) (i : Int) dEs dLs dMs (k : Int) x (i : Int) = _
    rw [rookerylaw16_GramDeep.l1, if_neg (by omega), if_pos hz1]
  | m + 1, i, x, hi, hx => by
    obtain ⟨hL, hT⟩ := deep_small hk hn
    obtain ⟨_, t2, _⟩ := tabs k hk
    have hx' : (x ++ rdOf ByteArray.empty dEs (k : Int)).data.toList ++ (repL (enL k) m ++ [46]) = deepL k n := by
      rw [bytes_app, t2, ← hx]
      show _ = x.data.toList ++ ((enL k ++ repL (enL k) m) ++ [46])
      simp [List.append_assoc]
    have hz : x.size + (rdOf ByteArray.empty dEs (k : Int)).size ≤ 9223372036854775807 := by
      have e := congrArg List.length hx'
      rw [List.length_append, bytes_app, List.length_append] at e
      have := size_list x
      have := size_list (rdOf ByteArray.empty dEs (k : Int))
      omega
    refine Ev.succ ((l1_ev m (i + 1) _ (by omega) hx').cast fun q => ?_)
    show rookerylaw16_GramDeep.l1 (q + 1) (n : Int) dEs dLs dMs (k : Int) x (i : Int) = _
    rw [rookerylaw16_GramDeep.l1, if_pos (by omega), if_pos (by omega), if_pos (show (k : Int) < ((dEs.length : Nat) : Int) by simp; omega), if_pos hz, show wrap64 ((i : Int) + 1) = ((i + 1 : Nat) : Int) by unfold wrap64; omega]
theorem l0_ev : ∀ (m i : Nat) (x : ByteArray), i + m = n → x.data.toList ++ (repL (hdL k) m ++ (122 :: (repL (enL k) n ++ [46]))) = deepL k n → Ev (fun q => rookerylaw16_GramDeep.l0 q (n : Int) dHs dEs dLs dMs (k : Int) x (i : Int)) true
  | 0, i, x, hi, hx => by
    obtain ⟨hL, hT⟩ := deep_small hk hn
    have hx' : (x ++ (⟨#[122]⟩ : ByteArray)).data.toList ++ (repL (enL k) n ++ [46]) = deepL k n := by
      rw [bytes_app, ← hx]
      simp [repL]
    have hz1 : x.size + 1 ≤ 9223372036854775807 := by
      have e := congrArg List.length hx
      rw [List.length_append] at e
      have := size_list x
      omega
    refine Ev.succ ((l1_ev hk hn n 0 _ (by omega) hx').cast fun q => ?_)
    show rookerylaw16_GramDeep.l0 (q + 1) (n : Int) dHs dEs dLs dMs (k : Int) x (i : Int) = _
    rw [rookerylaw16_GramDeep.l0, if_neg (by omega), if_pos hz1]
    rfl
  | m + 1, i, x, hi, hx => by
    obtain ⟨hL, hT⟩ := deep_small hk hn
    obtain ⟨t1, _, _⟩ := tabs k hk
    have hx' : (x ++ rdOf ByteArray.empty dHs (k : Int)).data.toList ++ (repL (hdL k) m ++ (122 :: (repL (enL k) n ++ [46]))) = deepL k n := by
      rw [bytes_app, t1, ← hx]
      show _ = x.data.toList ++ ((hdL k ++ repL (hdL k) m) ++ (122 :: (repL (enL k) n ++ [46])))
      simp [List.append_assoc]
    have hz : x.size + (rdOf ByteArray.empty dHs (k : Int)).size ≤ 9223372036854775807 := by
      have e := congrArg List.length hx'
      rw [List.length_append, bytes_app, List.length_append] at e
      have := size_list x
      have := size_list (rdOf ByteArray.empty dHs (k : Int))
      omega
    refine Ev.succ ((l0_ev m (i + 1) _ (by omega) hx').cast fun q => ?_)
    show rookerylaw16_GramDeep.l0 (q + 1) (n : Int) dHs dEs dLs dMs (k : Int) x (i : Int) = _
    rw [rookerylaw16_GramDeep.l0, if_pos (by omega), if_pos (by omega), if_pos (show (k : Int) < ((dHs.length : Nat) : Int) by simp; omega), if_pos hz, show wrap64 ((i : Int) + 1) = ((i + 1 : Nat) : Int) by unfold wrap64; omega]
end
theorem j1_ev (n : Nat) (hn : n ≤ 300) (c : Int) (hc : 0 ≤ c) : Ev (fun q => rookerylaw16_GramDeep.j1 q (n : Int) c dHs dEs dLs dMs) true := by
  obtain ⟨k, hk, e⟩ : ∃ k : Nat, k < 9 ∧ Int.tmod c 9 = (k : Int) := by
    refine ⟨(Int.tmod c 9).toNat, ?_, ?_⟩
    · have := Int.tmod_lt_of_pos c (show (0 : Int) < 9 by decide)
      have := Int.tmod_nonneg 9 hc
      omega
    · have := Int.tmod_nonneg 9 hc
      omega
  refine Ev.succ ((l0_ev hk hn n 0 (⟨#[102, 40, 41, 32, 45, 62, 32]⟩ : ByteArray) (by omega) rfl).cast fun q => ?_)
  show rookerylaw16_GramDeep.j1 (q + 1) (n : Int) c dHs dEs dLs dMs = _
  rw [rookerylaw16_GramDeep.j1, if_neg (by simp), show Int.tmod c ((dHs.length : Nat) : Int) = (k : Int) from e]
  rfl
end Go.Proofs.YtejidddjkngoiaaDoor
namespace Go.Proofs.YtejidddjkngoiaaDoor.Pure
open Go.RowKit Go.Proofs.YtejidddjkngoiaaDoor.PGram Go.Proofs.YtejidddjkngoiaaDoorW.PrintWords Go.Proofs.YtejidddjkngoiaaDoorW.PrintLast
theorem GramDeep : rookerylaw16_GramDeep.Pure := by
  intro a0 a1 w0 w1
  have h1 : -9223372036854775808 ≤ a1 ∧ a1 ≤ 9223372036854775807 := by
    exact bounds_i64 w1
  by_cases hn : a0 < 0 ∨ 300 < a0
  · refine ⟨1, ?_⟩
    unfold rookerylaw16_GramDeep.f
    show (if true = true then (if a0 < 0 then rookerylaw16_GramDeep.j0 1 a0 a1 true else rookerylaw16_GramDeep.j0 1 a0 a1 (decide (a0 > 300))) else some false) = some true
    rw [if_pos rfl]
    by_cases h0 : a0 < 0
    · rw [if_pos h0]
      rfl
    · rw [if_neg h0, show decide (a0 > 300) = true by simp; omega]
      rfl
  · obtain ⟨n, rfl⟩ := Int.eq_ofNat_of_zero_le (show 0 ≤ a0 by omega)
    have hn3 : n ≤ 300 := by omega
    have key : Ev (fun q => rookerylaw16_GramDeep.j0 q (n : Int) a1 false) true := by
      by_cases hc : a1 < 0
      · have e : wrap64 (-(wrap64 (a1 + 1))) = -(a1 + 1) := by unfold wrap64; omega
        refine Ev.succ ((j1_ev n hn3 (-(a1 + 1)) (by omega)).cast fun q => ?_)
        show rookerylaw16_GramDeep.j0 (q + 1) (n : Int) a1 false = _
        rw [rookerylaw16_GramDeep.j0]
        show (if a1 < 0 then rookerylaw16_GramDeep.j1 q (n : Int) (wrap64 (-(wrap64 (a1 + 1)))) dHs dEs dLs dMs else rookerylaw16_GramDeep.j1 q (n : Int) a1 dHs dEs dLs dMs) = _
        rw [if_pos hc, e]
      · refine Ev.succ ((j1_ev n hn3 a1 (by omega)).cast fun q => ?_)
        show rookerylaw16_GramDeep.j0 (q + 1) (n : Int) a1 false = _
        rw [rookerylaw16_GramDeep.j0]
        show (if a1 < 0 then rookerylaw16_GramDeep.j1 q (n : Int) (wrap64 (-(wrap64 (a1 + 1)))) dHs dEs dLs dMs else rookerylaw16_GramDeep.j1 q (n : Int) a1 dHs dEs dLs dMs) = _
        rw [if_neg hc]
    obtain ⟨q, hq⟩ := key.ex
    refine ⟨q, ?_⟩
    unfold rookerylaw16_GramDeep.f
    show (if true = true then (if (n : Int) < 0 then rookerylaw16_GramDeep.j0 q (n : Int) a1 true else rookerylaw16_GramDeep.j0 q (n : Int) a1 (decide ((n : Int) > 300))) else some false) = some true
    rw [if_pos rfl, if_neg (by omega), show decide ((n : Int) > 300) = false by simp; omega]
    exact hq
end Go.Proofs.YtejidddjkngoiaaDoor.Pure
