/- lex, the plain law: LexMany. -/
import Derived.Test.YtgkbmdlelcbmhaaDoorLp4
import Derived.Test.YtgkbmdlelcbmhaaDoorPLexx9
namespace Go.Proofs.YtgkbmdlelcbmhaaDoor
open Go.RowKit Go.Proofs.YtgkbmdlelcbmhaaDoor.PLex Go.Proofs.YtgkbmdlelcbmhaaDoorW.PrintWords
set_option linter.all false

set_option maxRecDepth 100000 in
theorem alive_true : rookerylaw15_alive.f 60 = some true := by kernel_rfl
theorem alive_ev : Ev (fun k => rookerylaw15_alive.f k) true := Ev.of (rookerylaw15_alive.mono) alive_true

def rep (U : List UInt8) : Nat → List UInt8
  | 0 => []
  | n + 1 => U ++ rep U n
def nums (L : List UInt8) : List Int := L.map fun b => (b.toNat : Int)
theorem str_nums (L : List UInt8) : strOfNums (nums L) = arr L := by
  unfold strOfNums nums arr
  rw [List.map_map]
  congr 2
  conv => rhs; rw [← List.map_id L]
  apply List.map_congr_left
  intro c _
  simp
theorem rep_length (U : List UInt8) : ∀ n, (rep U n).length = n * U.length
  | 0 => by simp [rep]
  | n + 1 => by
    simp only [rep, List.length_append, rep_length U n, Nat.add_mul, Nat.one_mul]
    omega
theorem many_loop (x0 : Int) (b : Bool) (U : List UInt8) (hU : U.length = 2) (res : Bool) : ∀ (d j : Nat) (L : List UInt8), (j : Int) + d = x0 → j + d ≤ 8000 → L.length = 2 * j →
    Ev (fun k => (lex_Scan.f k (arr (L ++ rep U d))).bind fun bt296 => (if b = true then (rookerylaw15_LexMany.j3 k (wrap64 (2 * x0)) b bt296.1 bt296.2.1 bt296.2.2) else (rookerylaw15_LexMany.j3 k x0 b bt296.1 bt296.2.1 bt296.2.2))) res →
    Ev (fun k => rookerylaw15_LexMany.l0 k x0 b (arr U) (nums L) (j : Int)) res
  | 0, j, L, h1, h2, h3, h4 => by
    refine Ev.succ ?_
    simp only [rookerylaw15_LexMany.l0]
    refine Ev.iteF (by omega) ?_
    rw [str_nums]
    simpa [rep] using h4
  | d + 1, j, L, h1, h2, h3, h4 => by
    refine Ev.succ ?_
    simp only [rookerylaw15_LexMany.l0]
    have hl : (nums L).length = 2 * j := by simp [nums, h3]
    have hz : (arr U).size = 2 := by simpa [arr, ByteArray.size] using hU
    refine Ev.iteT (by omega) (Ev.iteT (by omega) ?_)
    have e1 : nums L ++ bytesOf (arr U) = nums (L ++ U) := by simp [nums, bytesOf, arr]
    rw [e1, wrapN (by omega)]
    refine many_loop x0 b U hU res d (j + 1) (L ++ U) (by omega) (by omega) (by simp; omega) ?_
    have e2 : L ++ U ++ rep U d = L ++ rep U (d + 1) := by simp [rep]
    rw [e2]
    exact h4

/-- one token of one byte at the head -/
theorem tok_a (r : List UInt8) : tokE (97 :: 32 :: r) = 0 ∧ tokN (97 :: 32 :: r) = 1 := by
  have h1 : digB (hereL (97 :: 32 :: r)) = false := rfl
  have h2 : ¬ hereL (97 :: 32 :: r) = 34 := by simp [hereL]
  have h3 : greB (hereL (97 :: 32 :: r)) = false := rfl
  have h4 : smaB (hereL (97 :: 32 :: r)) = true := rfl
  have h5 : runL namB (97 :: 32 :: r) = 1 := rfl
  unfold tokE tokN tokL
  rw [if_neg (by simp [h1]), if_neg h2, if_neg (by simp [h3]), if_pos h4, h5, if_neg (by omega)]
  exact ⟨rfl, rfl⟩
theorem tok_c (r : List UInt8) : tokE (44 :: r) = 0 ∧ tokN (44 :: r) = 1 := by
  have h1 : digB (hereL (44 :: r)) = false := rfl
  have h2 : ¬ hereL (44 :: r) = 34 := by simp [hereL]
  have h3 : greB (hereL (44 :: r)) = false := rfl
  have h4 : smaB (hereL (44 :: r)) = false := rfl
  have h5 : signAt (arr (44 :: r)) = some ⟨#[44]⟩ := rfl
  unfold tokE tokN tokL
  rw [if_neg (by simp [h1]), if_neg h2, if_neg (by simp [h3]), if_neg (by simp [h4]), h5]
  exact ⟨rfl, rfl⟩
/-- a run of tokens that take one byte each and whose rest is reached over a gap of g bytes -/
theorem scan_step {m c i g : Nat} {l r : List UInt8} (hg : gapL false l = g) (hr : l.drop g = r) (hz : r ≠ []) (hc : c ≠ 4000) (he : tokE r = 0) (hn : tokN r = 1) :
    scanL (m + 1) c i l = (let x := scanL m (c + 1) (i + g + 1) (r.drop 1); if x.2.2 = 0 then (tokS (i + g) r :: x.1, x.2) else ([], x.2)) := by
  conv => lhs; unfold scanL
  simp only [hg, hr, he, hn, if_true]
  rw [if_neg hz, if_neg hc]
theorem scan_end {m c i : Nat} {l : List UInt8} (hr : l.drop (gapL false l) = []) : scanL (m + 1) c i l = ([], 0, 0) := by
  conv => lhs; unfold scanL
  simp only [hr, if_true]
theorem scan_full {m i g : Nat} {l : List UInt8} (hg : gapL false l = g) (hr : l.drop g ≠ []) : scanL (m + 1) 4000 i l = ([], ((i + g : Nat) : Int), 155) := by
  conv => lhs; unfold scanL
  simp only [hg, if_true]
  rw [if_neg hr]
theorem many_a : ∀ (n c i m g : Nat) (l : List UInt8), gapL false l = g → l.drop g = rep [97, 32] n → n < m → c ≤ 4000 →
    (c + n ≤ 4000 → (scanL m c i l).1.length = n ∧ (scanL m c i l).2 = (0, 0)) ∧ (4000 < c + n → scanL m c i l = ([], ((i + g + 2 * (4000 - c) : Nat) : Int), 155))
  | 0, c, i, m + 1, g, l, hg, hr, hm, hc => by
    rw [scan_end (by rw [hg]; exact hr)]
    exact ⟨fun _ => ⟨rfl, rfl⟩, fun h => by omega⟩
  | n + 1, c, i, m + 1, g, l, hg, hr, hm, hc => by
    have hr' : l.drop g = 97 :: 32 :: rep [97, 32] n := hr
    by_cases h4 : c = 4000
    · subst h4
      rw [scan_full hg (by rw [hr']; simp)]
      exact ⟨fun h => by omega, fun _ => by simp⟩
    have T := tok_a (rep [97, 32] n)
    rw [scan_step hg hr' (by simp) h4 T.1 T.2]
    have gn : gapL false (32 :: rep [97, 32] n) = 1 := by
      cases n with
      | zero => rfl
      | succ n => rfl
    have IH := many_a n (c + 1) (i + g + 1) m 1 (32 :: rep [97, 32] n) gn rfl (by omega) (by omega)
    have e : (97 :: 32 :: rep [97, 32] n).drop 1 = 32 :: rep [97, 32] n := rfl
    simp only [e]
    constructor
    · intro h
      obtain ⟨I1, I2⟩ := IH.1 (by omega)
      rw [if_pos (by rw [I2])]
      exact ⟨by simp [I1], I2⟩
    · intro h
      have I := IH.2 (by omega)
      rw [I]
      simp
      omega
  | n, c, i, 0, g, l, hg, hr, hm, hc => by omega
theorem many_c : ∀ (n c i m : Nat), n < m → c ≤ 4000 →
    (c + n ≤ 4000 → (scanL m c i (rep [44] n)).1.length = n ∧ (scanL m c i (rep [44] n)).2 = (0, 0)) ∧ (4000 < c + n → scanL m c i (rep [44] n) = ([], ((i + (4000 - c) : Nat) : Int), 155))
  | 0, c, i, m + 1, hm, hc => by
    rw [scan_end (l := rep [44] 0) rfl]
    exact ⟨fun _ => ⟨rfl, rfl⟩, fun h => by omega⟩
  | n + 1, c, i, m + 1, hm, hc => by
    have hr' : (rep [44] (n + 1)).drop 0 = 44 :: rep [44] n := rfl
    have hg : gapL false (rep [44] (n + 1)) = 0 := rfl
    by_cases h4 : c = 4000
    · subst h4
      rw [scan_full hg (by rw [hr']; simp)]
      exact ⟨fun h => by omega, fun _ => by simp⟩
    have T := tok_c (rep [44] n)
    rw [scan_step hg hr' (by simp) h4 T.1 T.2]
    have IH := many_c n (c + 1) (i + 0 + 1) m (by omega) (by omega)
    have e : (44 :: rep [44] n).drop 1 = rep [44] n := rfl
    simp only [e]
    constructor
    · intro h
      obtain ⟨I1, I2⟩ := IH.1 (by omega)
      rw [if_pos (by rw [I2])]
      exact ⟨by simp [I1], I2⟩
    · intro h
      have I := IH.2 (by omega)
      rw [I]
      simp
      omega
  | n, c, i, 0, hm, hc => by omega
theorem rep_two : ∀ n, rep [44, 44] n = rep [44] (2 * n)
  | 0 => rfl
  | n + 1 => by
    rw [show 2 * (n + 1) = (2 * n + 1) + 1 by omega]
    simp only [rep, rep_two n]
    rfl
end Go.Proofs.YtgkbmdlelcbmhaaDoor
