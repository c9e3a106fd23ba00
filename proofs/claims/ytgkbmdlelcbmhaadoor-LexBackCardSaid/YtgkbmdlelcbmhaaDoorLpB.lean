/- lex, the plain law: two texts, a line's end between. lex, the plain law: digits and the number that they spell. lex, the plain law: tokens spelt, and what is read of them again. lex, the plain law: which texts are words. -/
import Derived.Test.YtgkbmdlelcbmhaaDoorLpA
namespace Go.Proofs.YtgkbmdlelcbmhaaDoor
open Go.RowKit Go.Proofs.YtgkbmdlelcbmhaaDoor.PLex Go.Proofs.YtgkbmdlelcbmhaaDoorW.PrintWords
set_option linter.all false

theorem gap_glue (m : List UInt8) : ∀ (l : List UInt8) (b : Bool), gapL b (l ++ 10 :: m) = if gapL b l = l.length then l.length + 1 + gapL false m else gapL b l
  | [], b => by
    cases b <;> simp [gapL] <;> omega
  | c :: r, b => by
    have h1 := gap_glue m r true
    have h2 := gap_glue m r false
    have l1 := gapL_le r true
    have l2 := gapL_le r false
    cases b
    · simp only [List.cons_append, gapL, List.length_cons]
      split
      · rw [h1]
        split <;> split <;> omega
      · split
        · rw [h2]
          split <;> split <;> omega
        · split <;> omega
    · simp only [List.cons_append, gapL, List.length_cons]
      split
      · rw [h2]
        split <;> split <;> omega
      · rw [h1]
        split <;> split <;> omega
theorem runL_cons (p : Int → Bool) (c : UInt8) (r : List UInt8) : runL p (c :: r) = if p (c.toNat : Int) = true then runL p r + 1 else 0 := by
  unfold runL
  rw [List.takeWhile_cons]
  split <;> simp_all
theorem run_glue (p : Int → Bool) (hp : p 10 = false) (m : List UInt8) : ∀ l : List UInt8, runL p (l ++ 10 :: m) = runL p l
  | [] => by
    rw [List.nil_append, runL_cons, if_neg (show ¬ p (((10 : UInt8).toNat : Nat) : Int) = true by rw [show (((10 : UInt8).toNat : Nat) : Int) = 10 from rfl, hp]; simp)]
    rfl
  | c :: r => by rw [List.cons_append, runL_cons, runL_cons, run_glue p hp m r]
theorem here_glue {l : List UInt8} (m : List UInt8) (h : l ≠ []) : hereL (l ++ 10 :: m) = hereL l := by
  cases l with
  | nil => exact absurd rfl h
  | cons c r => rfl
theorem esc_glue {r : List UInt8} (x : List UInt8) {v : Int} {k : Nat} (h : escL r = some (v, k)) : escL (r ++ x) = some (v, k) := by
  rcases r with _ | ⟨d, r2⟩
  · cases h
  rw [← h]
  unfold escL at h ⊢
  simp only [List.cons_append]
  by_cases d1 : d.toNat = 110
  · simp only [if_pos d1]
  by_cases d2 : d.toNat = 116
  · simp only [if_neg d1, if_pos d2]
  by_cases d3 : d.toNat = 34 ∨ d.toNat = 92
  · simp only [if_neg d1, if_neg d2, if_pos d3]
  by_cases d5 : d.toNat = 120
  · simp only [if_neg d1, if_neg d2, if_neg d3, if_pos d5] at h ⊢
    rcases r2 with _ | ⟨a, _ | ⟨b, r3⟩⟩
    · cases h
    · cases h
    · rfl
  · simp only [if_neg d1, if_neg d2, if_neg d3, if_neg d5]
theorem addB_some {v : Int} {k n : Nat} {b : List Int} {o : Option (List Int × Nat)} (h : addB v k o = some (b, n)) : ∃ b' n', o = some (b', n') := by
  cases o with
  | none => cases h
  | some p => exact ⟨p.1, p.2, rfl⟩
theorem quoted_glue (x : List UInt8) : ∀ (n : Nat) (l : List UInt8) (b : List Int) (k : Nat), l.length ≤ n → quotedL l = some (b, k) → quotedL (l ++ x) = some (b, k) := by
  intro n
  induction n with
  | zero =>
    intro l b k hn h
    cases l with
    | nil => simp [quotedL] at h
    | cons c r => simp at hn
  | succ n ih =>
    intro l b k hn h
    cases l with
    | nil => simp [quotedL] at h
    | cons c r =>
      have hr : r.length ≤ n := by simpa using hn
      rw [← h]
      unfold quotedL at h
      conv => lhs; unfold quotedL
      conv => rhs; unfold quotedL
      simp only [List.cons_append]
      by_cases c1 : c.toNat < 32 ∨ 126 < c.toNat
      · rw [if_pos c1] at h; cases h
      rw [if_neg c1] at h ⊢
      rw [if_neg c1]
      by_cases c2 : c.toNat = 34
      · rw [if_pos c2, if_pos c2]
      rw [if_neg c2] at h ⊢
      rw [if_neg c2]
      by_cases c3 : c.toNat = 92
      · rw [if_pos c3, quoted_esc] at h
        rw [if_pos c3, if_pos c3, quoted_esc, quoted_esc]
        cases hE : escL r with
        | none => rw [hE] at h; cases h
        | some p =>
          obtain ⟨v, k'⟩ := p
          have hk := escL_le hE
          rw [hE] at h
          rw [esc_glue x hE]
          dsimp only at h ⊢
          obtain ⟨b', n', hq⟩ := addB_some h
          rw [List.drop_append_of_le_length hk.1, ih _ _ _ (by rw [List.length_drop]; omega) hq, hq]
      · rw [if_neg c3] at h ⊢
        rw [if_neg c3]
        obtain ⟨b', n', hq⟩ := addB_some h
        rw [ih _ _ _ hr hq, hq]
theorem pre_glue (m : List UInt8) : ∀ (p l : List UInt8), 10 ∉ p → p.isPrefixOf (l ++ 10 :: m) = p.isPrefixOf l
  | [], l, _ => by simp [List.isPrefixOf]
  | a :: p, [], h => by
    have : ¬ a = 10 := fun e => h (by simp [e])
    simp [List.isPrefixOf, this]
  | a :: p, c :: r, h => by
    have := pre_glue m p r (fun e => h (List.mem_cons_of_mem _ e))
    simp only [List.cons_append, List.isPrefixOf, this]
theorem sign_glue (m l : List UInt8) : signAt (arr (l ++ 10 :: m)) = signAt (arr l) := by
  have h2 : ∀ x : List UInt8, (arr x).data.toList = x := fun x => by simp [arr]
  have G : ∀ L : List ByteArray, (∀ q ∈ L, (10 : UInt8) ∉ q.data.toList) → L.find? (fun p => p.data.toList.isPrefixOf (l ++ 10 :: m)) = L.find? (fun p => p.data.toList.isPrefixOf l) := by
    intro L
    induction L with
    | nil => intro _; rfl
    | cons q L ih =>
      intro h
      rw [List.find?_cons, List.find?_cons, pre_glue m _ _ (h q (by simp)), ih (fun q' hq => h q' (List.mem_cons_of_mem _ hq))]
  unfold signAt
  rw [h2, h2]
  exact G signsL (by decide)
theorem tokInt_glue {l : List UInt8} (m : List UInt8) : tokIntL (l ++ 10 :: m) = tokIntL l := by
  have hr := runL_le digB l
  have e1 : (l ++ 10 :: m).take (runL digB l) = l.take (runL digB l) := List.take_append_of_le_length hr
  have e2 : (l ++ 10 :: m).drop (runL digB l) = l.drop (runL digB l) ++ 10 :: m := List.drop_append_of_le_length hr
  unfold tokIntL
  rw [run_glue digB rfl m l, e1, e2]
  by_cases hz : l.drop (runL digB l) = []
  · rw [hz]
    rfl
  · rw [here_glue m hz]
theorem tok_glue {l : List UInt8} (m : List UInt8) (hl : l ≠ []) (h : tokE l = 0) : tokL (l ++ 10 :: m) = tokL l := by
  have hr := runL_le namB l
  have e1 : (l ++ 10 :: m).take (runL namB l) = l.take (runL namB l) := List.take_append_of_le_length hr
  have hpos : 1 ≤ l.length := by
    cases l with
    | nil => exact absurd rfl hl
    | cons c r => simp
  have e2 : (l ++ 10 :: m).drop 1 = l.drop 1 ++ 10 :: m := List.drop_append_of_le_length hpos
  unfold tokE at h
  unfold tokL at h ⊢
  rw [here_glue m hl, tokInt_glue m, run_glue digB rfl m l, run_glue namB rfl m l, e1, e2, sign_glue m l]
  by_cases hd : digB (hereL l) = true
  · rw [if_pos hd, if_pos hd]
  rw [if_neg hd] at h
  rw [if_neg hd, if_neg hd]
  by_cases hq : hereL l = 34
  · rw [if_pos hq] at h
    rw [if_pos hq, if_pos hq]
    cases hL : quotedL (l.drop 1) with
    | none => rw [hL] at h; simp at h
    | some p =>
      obtain ⟨b, n⟩ := p
      rw [quoted_glue _ _ _ _ _ (Nat.le_refl _) hL]
  rw [if_neg hq, if_neg hq]
theorem scan_fuel : ∀ (m m' c i : Nat) (l : List UInt8), l.length < m → l.length < m' → scanL m c i l = scanL m' c i l
  | 0, m', c, i, l, h, h' => by omega
  | m + 1, 0, c, i, l, h, h' => by omega
  | m + 1, m' + 1, c, i, l, h, h' => by
    have hgl := gapL_le l false
    have hrl : (l.drop (gapL false l)).length = l.length - gapL false l := List.length_drop
    conv => lhs; unfold scanL
    conv => rhs; unfold scanL
    generalize l.drop (gapL false l) = r at hrl
    dsimp only
    by_cases hz : r = []
    · rw [if_pos hz, if_pos hz]
    rw [if_neg hz, if_neg hz]
    by_cases hc : c = 4000
    · rw [if_pos hc, if_pos hc]
    rw [if_neg hc, if_neg hc]
    by_cases he : tokE r = 0
    · have hn := tokN_ok hz he
      rw [if_pos he, if_pos he, scan_fuel m m' (c + 1) (i + gapL false l + tokN r) (r.drop (tokN r)) (by rw [List.length_drop]; omega) (by rw [List.length_drop]; omega)]
    · rw [if_neg he, if_neg he]
theorem scan_good : ∀ (m c i : Nat) (l : List UInt8), (scanL m c i l).2.2 = 0 → (scanL m c i l).2 = (0, 0)
  | 0, c, i, l, h => rfl
  | m + 1, c, i, l, h => by
    unfold scanL at h ⊢
    dsimp only at h ⊢
    generalize l.drop (gapL false l) = r at h ⊢
    by_cases hz : r = []
    · rw [if_pos hz]
    rw [if_neg hz] at h ⊢
    by_cases hc : c = 4000
    · rw [if_pos hc] at h; simp at h
    rw [if_neg hc] at h ⊢
    by_cases he : tokE r = 0
    · rw [if_pos he] at h ⊢
      have IH := scan_good m (c + 1) (i + gapL false l + tokN r) (r.drop (tokN r))
      by_cases hx : (scanL m (c + 1) (i + gapL false l + tokN r) (r.drop (tokN r))).2.2 = 0
      · rw [if_pos hx]
        exact IH hx
      · rw [if_neg hx] at h
        exact absurd h hx
    · rw [if_neg he] at h
      exact absurd h he
theorem scan_glue : ∀ (m c i : Nat) (l : List UInt8), l.length < m → (scanL m c i l).2.2 = 0 → ∀ (M : Nat) (b : List UInt8), l.length + 1 + b.length < M →
    (scanL M (c + (scanL m c i l).1.length) (i + l.length + 1) b).2.2 = 0 →
    scanL M c i (l ++ 10 :: b) = ((scanL m c i l).1 ++ (scanL M (c + (scanL m c i l).1.length) (i + l.length + 1) b).1, 0, 0)
  | 0, c, i, l, hm, h, M, b, hM, hb => by omega
  | m + 1, c, i, l, hm, h, 0, b, hM, hb => by omega
  | m + 1, c, i, l, hm, h, M + 1, b, hM, hb => by
    have hgl := gapL_le l false
    have hrl : (l.drop (gapL false l)).length = l.length - gapL false l := List.length_drop
    have hG := gap_glue b l false
    have ex : ∀ x, scanL (m + 1) c i l = x → scanL (m + 1) c i l = x := fun _ h => h
    by_cases hz : l.drop (gapL false l) = []
    · have e0 : scanL (m + 1) c i l = ([], 0, 0) := by
        conv => lhs; unfold scanL
        dsimp only
        rw [if_pos hz]
      rw [e0] at hb ⊢
      have eg : gapL false l = l.length := by
        rw [hz] at hrl
        simp at hrl
        omega
      rw [if_pos eg] at hG
      have S : scanL (M + 1) c i (l ++ 10 :: b) = scanL (M + 1) c (i + l.length + 1) b := by
        have ed : (l ++ 10 :: b).drop (l.length + 1 + gapL false b) = b.drop (gapL false b) := by
          rw [show l ++ 10 :: b = (l ++ [10]) ++ b by simp, show l.length + 1 + gapL false b = (l ++ [10]).length + gapL false b by simp, List.drop_append]
          simp
        conv => lhs; unfold scanL
        conv => rhs; unfold scanL
        rw [hG, ed, show i + (l.length + 1 + gapL false b) = i + l.length + 1 + gapL false b by omega]
      rw [S]
      have hb' : (scanL (M + 1) c (i + l.length + 1) b).2.2 = 0 := hb
      have := scan_good _ _ _ _ hb'
      simp only [List.length_nil, Nat.add_zero, List.nil_append]
      exact Prod.ext rfl this
    · have hlt : ¬ gapL false l = l.length := fun e => hz (List.drop_eq_nil_of_le (by omega))
      rw [if_neg hlt] at hG
      have ed : (l ++ 10 :: b).drop (gapL false l) = l.drop (gapL false l) ++ 10 :: b := List.drop_append_of_le_length hgl
      have hz2 : ¬ (l.drop (gapL false l) ++ 10 :: b) = [] := by simp
      generalize hrr : l.drop (gapL false l) = r at hrl hz ed hz2
      have hc : ¬ c = 4000 := by
        intro hc
        unfold scanL at h
        dsimp only at h
        rw [hrr, if_neg hz, if_pos hc] at h
        simp at h
      have he : tokE r = 0 := by
        rcases Decidable.em (tokE r = 0) with he | he
        · exact he
        · unfold scanL at h
          dsimp only at h
          rw [hrr, if_neg hz, if_neg hc, if_neg he] at h
          exact absurd h he
      have hn := tokN_ok hz he
      have hx : (scanL m (c + 1) (i + gapL false l + tokN r) (r.drop (tokN r))).2.2 = 0 := by
        rcases Decidable.em ((scanL m (c + 1) (i + gapL false l + tokN r) (r.drop (tokN r))).2.2 = 0) with hx | hx
        · exact hx
        · unfold scanL at h
          dsimp only at h
          rw [hrr, if_neg hz, if_neg hc, if_pos he, if_neg hx] at h
          exact absurd h hx
      have e1 : scanL (m + 1) c i l = (tokS (i + gapL false l) r :: (scanL m (c + 1) (i + gapL false l + tokN r) (r.drop (tokN r))).1, (scanL m (c + 1) (i + gapL false l + tokN r) (r.drop (tokN r))).2) := by
        conv => lhs; unfold scanL
        dsimp only
        rw [hrr, if_neg hz, if_neg hc, if_pos he, if_pos hx]
      have T := tok_glue b hz he
      have he2 : tokE (r ++ 10 :: b) = 0 := by unfold tokE; rw [T]; exact he
      have hn2 : tokN (r ++ 10 :: b) = tokN r := by unfold tokN; rw [T]
      have hs2 : ∀ j, tokS j (r ++ 10 :: b) = tokS j r := fun j => by unfold tokS; rw [T]
      have edd : (r ++ 10 :: b).drop (tokN r) = r.drop (tokN r) ++ 10 :: b := List.drop_append_of_le_length hn.2
      have hdl : (r.drop (tokN r)).length = r.length - tokN r := List.length_drop
      rw [e1] at hb ⊢
      dsimp only at hb ⊢
      rw [List.length_cons, show c + ((scanL m (c + 1) (i + gapL false l + tokN r) (r.drop (tokN r))).1.length + 1) = c + 1 + (scanL m (c + 1) (i + gapL false l + tokN r) (r.drop (tokN r))).1.length by omega] at hb ⊢
      have ei : i + l.length + 1 = i + gapL false l + tokN r + (r.drop (tokN r)).length + 1 := by omega
      rw [ei, scan_fuel (M + 1) M _ _ b (by omega) (by omega)] at hb ⊢
      have IH := scan_glue m (c + 1) (i + gapL false l + tokN r) (r.drop (tokN r)) (by omega) hx M b (by omega) hb
      conv => lhs; unfold scanL
      dsimp only
      rw [hG, ed, if_neg hz2, if_neg hc, if_pos he2, hn2, edd, hs2, IH]
      rfl
def shiftT (d : Nat) (t : S33) : S33 := ⟨t.f0, t.f1, t.f2, t.f3, t.f4 + (d : Int)⟩
theorem scan_shift : ∀ (m c i : Nat) (l : List UInt8) (c' d : Nat), (scanL m c i l).2.2 = 0 → c' + (scanL m c i l).1.length ≤ 4000 → scanL m c' (i + d) l = ((scanL m c i l).1.map (shiftT d), 0, 0)
  | 0, c, i, l, c', d, h, hc => rfl
  | m + 1, c, i, l, c', d, h, hc' => by
    unfold scanL at h hc' ⊢
    dsimp only at h hc' ⊢
    generalize l.drop (gapL false l) = r at h hc' ⊢
    by_cases hz : r = []
    · rw [if_pos hz, if_pos hz]
      rfl
    rw [if_neg hz] at h hc'
    rw [if_neg hz, if_neg hz]
    by_cases hc : c = 4000
    · rw [if_pos hc] at h; simp at h
    rw [if_neg hc] at h hc'
    rw [if_neg hc]
    by_cases he : tokE r = 0
    · rw [if_pos he] at h hc'
      rw [if_pos he, if_pos he]
      by_cases hx : (scanL m (c + 1) (i + gapL false l + tokN r) (r.drop (tokN r))).2.2 = 0
      · rw [if_pos hx] at hc'
        rw [if_pos hx]
        simp only [List.length_cons] at hc'
        have IH := scan_shift m (c + 1) (i + gapL false l + tokN r) (r.drop (tokN r)) (c' + 1) d hx (by omega)
        rw [if_neg (show ¬ c' = 4000 by omega), show i + d + gapL false l + tokN r = i + gapL false l + tokN r + d by omega, IH]
        rw [if_pos (by rfl)]
        refine Prod.ext ?_ rfl
        show tokS (i + d + gapL false l) r :: _ = List.map (shiftT d) (_ :: _)
        rw [List.map_cons]
        congr 1
        unfold tokS shiftT
        dsimp only
        congr 1
        omega
      · rw [if_neg hx] at h
        exact absurd h hx
    · rw [if_neg he] at h
      exact absurd h he
def isDig (c : UInt8) : Prop := 48 ≤ c.toNat ∧ c.toNat ≤ 57
def valN : Nat → List UInt8 → Nat
  | a, [] => a
  | a, c :: r => valN (a * 10 + (c.toNat - 48)) r
theorem valN_ge : ∀ (l : List UInt8) (a : Nat), a ≤ valN a l
  | [], a => Nat.le_refl _
  | c :: r, a => Nat.le_trans (by omega) (valN_ge r (a * 10 + (c.toNat - 48)))
theorem valN_append : ∀ (l r : List UInt8) (a : Nat), valN a (l ++ r) = valN (valN a l) r
  | [], r, a => rfl
  | c :: l, r, a => valN_append l r _
theorem parseM_val : ∀ (l : List UInt8) (a : Nat), (∀ c ∈ l, isDig c) → a ≤ 18446744073709551615 →
    (valN a l ≤ 18446744073709551615 ∧ Lib.parseUintM 18446744073709551615 a l = .ok (valN a l)) ∨ (18446744073709551615 < valN a l ∧ Lib.parseUintM 18446744073709551615 a l = .range)
  | [], a, _, ha => .inl ⟨ha, rfl⟩
  | c :: r, a, h, ha => by
    have hc : 48 ≤ c.toNat ∧ c.toNat ≤ 57 := h c (by simp)
    have hg := valN_ge r (a * 10 + (c.toNat - 48))
    unfold Lib.parseUintM valN
    rw [if_pos hc]
    by_cases h1 : 1844674407370955162 ≤ a
    · rw [if_pos h1]
      exact .inr ⟨by omega, rfl⟩
    rw [if_neg h1]
    by_cases h2 : 18446744073709551615 < a * 10 + (c.toNat - 48)
    · rw [if_pos h2]
      exact .inr ⟨by omega, rfl⟩
    rw [if_neg h2]
    exact parseM_val r _ (fun d hd => h d (List.mem_cons_of_mem _ hd)) (by omega)
theorem parseI_val {l : List UInt8} (hl : l ≠ []) (h : ∀ c ∈ l, isDig c) :
    Lib.parseIntB 64 l = if 9223372036854775808 ≤ valN 0 l then .range else .ok (valN 0 l : Int) := by
  cases l with
  | nil => exact absurd rfl hl
  | cons c r =>
    have hc : 48 ≤ c.toNat ∧ c.toNat ≤ 57 := h c (by simp)
    have P := parseM_val (c :: r) 0 h (by omega)
    unfold Lib.parseIntB
    dsimp only
    rw [if_neg (show ¬ (c.toNat = 43 ∨ c.toNat = 45) by omega)]
    have e : Lib.parseUintB 64 (c :: r) = Lib.parseUintM 18446744073709551615 0 (c :: r) := by
      unfold Lib.parseUintB
      rw [if_neg (by simp)]
    rw [e]
    rcases P with ⟨p1, p2⟩ | ⟨p1, p2⟩
    · rw [p2]
      dsimp only
      by_cases h3 : 9223372036854775808 ≤ valN 0 (c :: r)
      · rw [if_pos h3, if_pos ⟨by omega, h3⟩]
      · rw [if_neg h3, if_neg (fun x => h3 x.2), if_neg (by omega), if_neg (by omega)]
    · rw [p2]
      rw [if_pos (by omega)]
theorem mem_tw {α : Type} {p : α → Bool} {c : α} : ∀ {l : List α}, c ∈ l.takeWhile p → p c = true
  | [], h => by simp at h
  | x :: l, h => by
    rw [List.takeWhile_cons] at h
    by_cases hx : p x = true
    · rw [if_pos hx] at h
      rcases List.mem_cons.mp h with e | h
      · rw [e]; exact hx
      · exact mem_tw h
    · rw [if_neg hx] at h
      simp at h
theorem run_digs (l : List UInt8) : ∀ c ∈ l.take (runL digB l), isDig c := by
  intro c hc
  unfold runL at hc
  have hp : (l.takeWhile fun c => digB (c.toNat : Int)) <+: l := List.takeWhile_prefix _
  rw [← List.prefix_iff_eq_take.mp hp] at hc
  have h2 := mem_tw hc
  simp only [digB, Bool.and_eq_true, decide_eq_true_eq] at h2
  unfold isDig
  omega
/-- what a number's token is, by the value of its digits -/
theorem tokInt_val {l : List UInt8} (h : digB (hereL l) = true) :
    tokIntL l = if 4611686018427387903 < valN 0 (l.take (runL digB l)) ∨ smaB (hereL (l.drop (runL digB l))) = true ∨ greB (hereL (l.drop (runL digB l))) = true then (0, 152) else ((valN 0 (l.take (runL digB l)) : Int), 0) := by
  have hl : l ≠ [] := by
    intro e
    rw [e] at h
    cases h
  have h1 := runL_pos h hl
  have hne : l.take (runL digB l) ≠ [] := by
    intro e
    have := congrArg List.length e
    rw [List.length_take, List.length_nil] at this
    have := runL_le digB l
    omega
  unfold tokIntL
  rw [parseI_val hne (run_digs l)]
  generalize valN 0 (l.take (runL digB l)) = v
  by_cases h3 : 9223372036854775808 ≤ v
  · rw [if_pos h3, if_pos (.inl (by omega))]
  · rw [if_neg h3]
    dsimp only
    by_cases h4 : 4611686018427387903 < v ∨ smaB (hereL (l.drop (runL digB l))) = true ∨ greB (hereL (l.drop (runL digB l))) = true
    · rw [if_pos h4, if_pos]
      rcases h4 with h4 | h4
      · exact .inl (by omega)
      · exact .inr h4
    · rw [if_neg h4, if_neg]
      intro h5
      rcases h5 with h5 | h5
      · exact h4 (.inl (by omega))
      · exact h4 (.inr h5)
/-! ### the numeral of a number -/
theorem ofNat_dig {d : Nat} (h : d < 10) : (UInt8.ofNat (48 + d)).toNat = 48 + d := by
  simp only [UInt8.toNat_ofNat']
  omega
theorem dec_digs (u : Nat) : (∀ c ∈ Lib.decDigits u, isDig c) ∧ valN 0 (Lib.decDigits u) = u ∧ Lib.decDigits u ≠ [] := by
  induction u using Nat.strongRecOn with
  | _ u ih =>
    unfold Lib.decDigits
    by_cases h : u < 10
    · rw [dif_pos h]
      refine ⟨fun c hc => ?_, ?_, by simp⟩
      · simp only [List.mem_singleton] at hc
        subst hc
        unfold isDig
        rw [ofNat_dig h]
        omega
      · show 0 * 10 + ((UInt8.ofNat (48 + u)).toNat - 48) = u
        rw [ofNat_dig h]
        omega
    · rw [dif_neg h]
      obtain ⟨i1, i2, i3⟩ := ih (u / 10) (by omega)
      refine ⟨fun c hc => ?_, ?_, by simp⟩
      · rcases List.mem_append.mp hc with hc | hc
        · exact i1 c hc
        · simp only [List.mem_singleton] at hc
          subst hc
          unfold isDig
          rw [ofNat_dig (by omega)]
          omega
      · rw [valN_append, i2]
        show u / 10 * 10 + ((UInt8.ofNat (48 + u % 10)).toNat - 48) = u
        rw [ofNat_dig (by omega)]
        omega
theorem run_all (p : Int → Bool) (x : List UInt8) (hx : x = [] ∨ p (hereL x) = false) : ∀ l : List UInt8, (∀ c ∈ l, p (c.toNat : Int) = true) → runL p (l ++ x) = l.length
  | [], _ => by
    rcases hx with rfl | hx
    · rfl
    · cases x with
      | nil => rfl
      | cons c r =>
        have hx : p (c.toNat : Int) = false := hx
        simp [runL, hx]
  | c :: l, h => by
    have IH := run_all p x hx l (fun d hd => h d (List.mem_cons_of_mem _ hd))
    have hc := h c (by simp)
    unfold runL at IH ⊢
    rw [List.cons_append, List.takeWhile_cons, if_pos hc]
    simp [IH]
set_option maxRecDepth 100000 in
theorem hex_back : ∀ n, n < 256 → 0 ≤ hx (hexC (n / 16)) ∧ 0 ≤ hx (hexC (n % 16)) ∧ hxv (hexC (n / 16)) (hexC (n % 16)) = (n : Int) := by decide +kernel
theorem ofI_nat {v : Int} (h0 : 0 ≤ v) (h1 : v < 256) : ((ofI v).toNat : Int) = v := by
  unfold ofI
  simp only [UInt8.toNat_ofNat']
  omega
theorem quoted_n (r : List UInt8) : quotedL (92 :: 110 :: r) = addB 10 2 (quotedL r) := by
  conv => lhs; unfold quotedL
  rfl
theorem quoted_t (r : List UInt8) : quotedL (92 :: 116 :: r) = addB 9 2 (quotedL r) := by
  conv => lhs; unfold quotedL
  rfl
theorem quoted_e {d : UInt8} (h : d.toNat = 34 ∨ d.toNat = 92) (r : List UInt8) : quotedL (92 :: d :: r) = addB (d.toNat : Int) 2 (quotedL r) := by
  conv => lhs; unfold quotedL
  rw [if_neg (by decide), if_neg (by decide), if_pos (by decide)]
  dsimp only
  rw [if_neg (by omega), if_neg (by omega), if_pos h]
theorem quoted_x {a b : UInt8} (h : 0 ≤ hx a ∧ 0 ≤ hx b) (r : List UInt8) : quotedL (92 :: 120 :: a :: b :: r) = addB (hxv a b) 4 (quotedL r) := by
  conv => lhs; unfold quotedL
  rw [if_neg (by decide), if_neg (by decide), if_pos (by decide)]
  dsimp only
  rw [if_neg (by decide), if_neg (by decide), if_neg (by decide), if_pos (by decide), if_pos h]
theorem quoted_c {c : UInt8} (h1 : 32 ≤ c.toNat) (h2 : c.toNat ≤ 126) (h3 : c.toNat ≠ 34) (h4 : c.toNat ≠ 92) (r : List UInt8) : quotedL (c :: r) = addB (c.toNat : Int) 1 (quotedL r) := by
  conv => lhs; unfold quotedL
  rw [if_neg (by omega), if_neg h3, if_neg h4]
theorem quoted_spell (x : List UInt8) : ∀ b : List Int, (∀ v ∈ b, 0 ≤ v ∧ v < 256) → quotedL (spQ b ++ 34 :: x) = some (b, (spQ b).length + 1)
  | [], _ => by
    show quotedL (34 :: x) = _
    unfold quotedL
    rfl
  | v :: b, h => by
    have IH := quoted_spell x b (fun u hu => h u (List.mem_cons_of_mem _ hu))
    obtain ⟨v0, v1⟩ := h v (by simp)
    have hv := ofI_nat v0 v1
    have hvn : (ofI v).toNat = v.toNat := by omega
    show quotedL (spC v ++ spQ b ++ 34 :: x) = some (v :: b, (spC v ++ spQ b).length + 1)
    rw [List.append_assoc, List.length_append]
    unfold spC
    by_cases c1 : v = 10
    · rw [if_pos c1]
      show quotedL (92 :: 110 :: (spQ b ++ 34 :: x)) = _
      rw [quoted_n, IH, c1]
      simp only [addB, List.length_cons, List.length_nil, Option.some.injEq, Prod.mk.injEq, true_and]
      omega
    rw [if_neg c1]
    by_cases c2 : v = 9
    · rw [if_pos c2]
      show quotedL (92 :: 116 :: (spQ b ++ 34 :: x)) = _
      rw [quoted_t, IH, c2]
      simp only [addB, List.length_cons, List.length_nil, Option.some.injEq, Prod.mk.injEq, true_and]
      omega
    rw [if_neg c2]
    by_cases c3 : v = 34 ∨ v = 92
    · rw [if_pos c3]
      show quotedL (92 :: ofI v :: (spQ b ++ 34 :: x)) = _
      rw [quoted_e (by omega), IH, hv]
      simp only [addB, List.length_cons, List.length_nil, Option.some.injEq, Prod.mk.injEq, true_and]
      omega
    rw [if_neg c3]
    by_cases c4 : 32 ≤ v ∧ v ≤ 126
    · rw [if_pos c4]
      show quotedL (ofI v :: (spQ b ++ 34 :: x)) = _
      rw [quoted_c (by omega) (by omega) (by omega) (by omega), IH, hv]
      simp only [addB, List.length_cons, List.length_nil, Option.some.injEq, Prod.mk.injEq, true_and]
      omega
    rw [if_neg c4]
    obtain ⟨n, rfl⟩ := Int.eq_ofNat_of_zero_le v0
    have H := hex_back n (by omega)
    show quotedL (92 :: 120 :: hexC ((n : Int) / 16).toNat :: hexC ((n : Int) % 16).toNat :: (spQ b ++ 34 :: x)) = _
    rw [show ((n : Int) / 16).toNat = n / 16 by omega, show ((n : Int) % 16).toNat = n % 16 by omega, quoted_x ⟨H.1, H.2.1⟩, IH, H.2.2]
    simp only [addB, List.length_cons, List.length_nil, Option.some.injEq, Prod.mk.injEq, true_and]
    omega
/-- what a token that Scan gives may be -/
def Good (kd : Int) (nm : ByteArray) (v : Int) (b : List Int) : Prop :=
  (kd = 1 ∧ nm = noS ∧ 0 ≤ v ∧ v ≤ 4611686018427387903 ∧ b = []) ∨ (kd = 4 ∧ nm = noS ∧ v = 0 ∧ ∀ x ∈ b, 0 ≤ x ∧ x < 256) ∨
  (v = 0 ∧ b = [] ∧ ∃ L, nm = arr L ∧ L ≠ [] ∧ (∀ c ∈ L, namB (c.toNat : Int) = true) ∧ L.length ≤ 32 ∧
    ((kd = 3 ∧ greB (hereL L) = true) ∨ (kd = (if lexWord nm = true then 6 else 2) ∧ smaB (hereL L) = true))) ∨
  (kd = 5 ∧ v = 0 ∧ b = [] ∧ nm ∈ signsL)
theorem hxv_byte (a b : UInt8) : 0 ≤ hxv a b ∧ hxv a b < 256 := by
  unfold hxv
  exact ⟨Int.emod_nonneg _ (by decide), Int.emod_lt_of_pos _ (by decide)⟩
theorem quotedL_bytes : ∀ (n : Nat) (l : List UInt8) (b : List Int) (m : Nat), l.length ≤ n → quotedL l = some (b, m) → ∀ x ∈ b, 0 ≤ x ∧ x < 256 := by
  intro n
  induction n with
  | zero =>
    intro l b m hn h
    cases l with
    | nil => simp [quotedL] at h
    | cons c r => simp at hn
  | succ n ih =>
    intro l b m hn h
    cases l with
    | nil => simp [quotedL] at h
    | cons c r =>
      have hr : r.length ≤ n := by simpa using hn
      have add : ∀ (v : Int) (k : Nat) (l' : List UInt8), l'.length ≤ n → 0 ≤ v ∧ v < 256 → addB v k (quotedL l') = some (b, m) → ∀ x ∈ b, 0 ≤ x ∧ x < 256 := by
        intro v k l' h1 h2 h3
        cases hq : quotedL l' with
        | none => rw [hq] at h3; cases h3
        | some p =>
          obtain ⟨b', m'⟩ := p
          rw [hq] at h3
          have := ih l' b' m' h1 hq
          simp only [addB, Option.some.injEq, Prod.mk.injEq] at h3
          rw [← h3.1]
          intro x hx
          rcases List.mem_cons.mp hx with e | hx
          · rw [e]; exact h2
          · exact this x hx
      have byte : ∀ d : UInt8, 0 ≤ (d.toNat : Int) ∧ (d.toNat : Int) < 256 := fun d => by have := d.toNat_lt; omega
      unfold quotedL at h
      by_cases c1 : c.toNat < 32 ∨ 126 < c.toNat
      · rw [if_pos c1] at h; cases h
      rw [if_neg c1] at h
      by_cases c2 : c.toNat = 34
      · rw [if_pos c2] at h
        simp only [Option.some.injEq, Prod.mk.injEq] at h
        rw [← h.1]
        intro x hx
        cases hx
      rw [if_neg c2] at h
      by_cases c3 : c.toNat = 92
      · rw [if_pos c3, quoted_esc] at h
        cases hE : escL r with
        | none => rw [hE] at h; cases h
        | some p =>
          obtain ⟨v, k⟩ := p
          rw [hE] at h
          have := escL_le hE
          refine add v (1 + k) (r.drop k) (by rw [List.length_drop]; omega) ?_ h
          unfold escL at hE
          repeat' (split at hE)
          all_goals first | (cases hE; done) | (injection hE with hE; injection hE with h1 h2; subst h1; first | exact hxv_byte _ _ | exact byte _ | omega)
      · rw [if_neg c3] at h
        exact add _ 1 r hr (byte c) h
theorem run_nams (l : List UInt8) : ∀ c ∈ l.take (runL namB l), namB (c.toNat : Int) = true := by
  intro c hc
  unfold runL at hc
  have hp : (l.takeWhile fun c => namB (c.toNat : Int)) <+: l := List.takeWhile_prefix _
  rw [← List.prefix_iff_eq_take.mp hp] at hc
  exact mem_tw (p := fun c : UInt8 => namB (c.toNat : Int)) hc
theorem tok_good {l : List UInt8} (hl : l ≠ []) (h : tokE l = 0) : Good (tokL l).1 (tokL l).2.1 (tokL l).2.2.1 (tokL l).2.2.2.1 := by
  unfold tokE at h
  unfold tokL at h ⊢
  by_cases hd : digB (hereL l) = true
  · rw [if_pos hd] at h ⊢
    rw [tokInt_val hd] at h ⊢
    dsimp only at h ⊢
    by_cases hv : 4611686018427387903 < valN 0 (l.take (runL digB l)) ∨ smaB (hereL (l.drop (runL digB l))) = true ∨ greB (hereL (l.drop (runL digB l))) = true
    · rw [if_pos hv] at h
      simp at h
    · rw [if_neg hv]
      exact .inl ⟨rfl, rfl, by dsimp only; omega, by dsimp only; omega, rfl⟩
  rw [if_neg hd] at h ⊢
  by_cases hq : hereL l = 34
  · rw [if_pos hq] at h ⊢
    cases hL : quotedL (l.drop 1) with
    | none => rw [hL] at h; simp at h
    | some p =>
      obtain ⟨b, n⟩ := p
      exact .inr (.inl ⟨rfl, rfl, rfl, quotedL_bytes _ _ _ _ (Nat.le_refl _) hL⟩)
  rw [if_neg hq] at h ⊢
  have hle := runL_le namB l
  have hlen : (l.take (runL namB l)).length = runL namB l := by rw [List.length_take]; omega
  have name : namB (hereL l) = true → l.take (runL namB l) ≠ [] ∧ hereL (l.take (runL namB l)) = hereL l := by
    intro hn
    have h1 := runL_pos hn hl
    cases l with
    | nil => exact absurd rfl hl
    | cons c r =>
      obtain ⟨k, hk⟩ : ∃ k, runL namB (c :: r) = k + 1 := ⟨runL namB (c :: r) - 1, by omega⟩
      rw [hk]
      exact ⟨by simp, rfl⟩
  by_cases hg : greB (hereL l) = true
  · rw [if_pos hg] at h ⊢
    dsimp only at h ⊢
    have N := name (by simp [namB, hg])
    by_cases hl : 32 < runL namB l
    · rw [if_pos hl] at h
      simp at h
    · exact .inr (.inr (.inl ⟨rfl, rfl, _, rfl, N.1, run_nams l, by omega, .inl ⟨rfl, by rw [N.2]; exact hg⟩⟩))
  rw [if_neg hg] at h ⊢
  by_cases hm : smaB (hereL l) = true
  · rw [if_pos hm] at h ⊢
    have N := name (by simp [namB, hm])
    by_cases hl : 32 < runL namB l
    · rw [if_pos hl] at h
      simp at h
    · rw [if_neg hl]
      exact .inr (.inr (.inl ⟨rfl, rfl, _, rfl, N.1, run_nams l, by omega, .inr ⟨rfl, by rw [N.2]; exact hm⟩⟩))
  rw [if_neg hm] at h ⊢
  cases hS : signAt (arr l) with
  | none => rw [hS] at h; simp at h
  | some p =>
    refine .inr (.inr (.inr ⟨rfl, rfl, rfl, ?_⟩))
    unfold signAt at hS
    exact List.mem_of_find?_eq_some hS
/-- a token's text, as bytes -/
def spT (kd : Int) (nm : ByteArray) (v : Int) (b : List Int) : List UInt8 :=
  if kd = 4 then 34 :: (spQ b ++ [34]) else if kd = 1 then Lib.decDigits v.toNat else nm.data.toList
theorem gap_none {c : UInt8} (r : List UInt8) (h1 : 32 < c.toNat) (h2 : c.toNat ≠ 37) : gapL false (c :: r) = 0 := by
  unfold gapL
  rw [if_neg h2, if_neg (by omega)]
theorem sign_spell : ∀ p ∈ signsL, ∀ r : List UInt8, p.data.toList ≠ [] ∧ gapL false (p.data.toList ++ 32 :: r) = 0 ∧ tokL (p.data.toList ++ 32 :: r) = (5, p, 0, [], 0, p.data.toList.length) := by
  intro p hp r
  simp only [signsL, List.mem_cons, List.not_mem_nil, or_false] at hp
  rcases hp with rfl | rfl | rfl | rfl | rfl | rfl | rfl | rfl | rfl | rfl | rfl | rfl | rfl | rfl | rfl | rfl | rfl | rfl | rfl | rfl | rfl | rfl
  all_goals exact ⟨by simp, rfl, rfl⟩
theorem byte_nam (c : UInt8) (h : namB (c.toNat : Int) = true) : 48 ≤ c.toNat := by
  simp only [namB, smaB, greB, digB, Bool.or_eq_true, Bool.and_eq_true, decide_eq_true_eq, beq_iff_eq] at h
  omega
theorem here_app {L : List UInt8} (x : List UInt8) (h : L ≠ []) : hereL (L ++ x) = hereL L := by
  cases L with
  | nil => exact absurd rfl h
  | cons c r => rfl
theorem gap_app {L : List UInt8} (x : List UInt8) (h : L ≠ []) (h1 : 37 < hereL L) : gapL false (L ++ x) = 0 := by
  cases L with
  | nil => exact absurd rfl h
  | cons c r =>
    have h1 : (37 : Int) < (c.toNat : Int) := h1
    exact gap_none _ (by omega) (by omega)
theorem spell_scan {kd : Int} {nm : ByteArray} {v : Int} {b : List Int} (h : Good kd nm v b) (r : List UInt8) :
    spT kd nm v b ≠ [] ∧ gapL false (spT kd nm v b ++ 32 :: r) = 0 ∧ tokL (spT kd nm v b ++ 32 :: r) = (kd, nm, v, b, 0, (spT kd nm v b).length) := by
  rcases h with ⟨rfl, rfl, v0, v1, rfl⟩ | ⟨rfl, rfl, rfl, hb⟩ | ⟨rfl, rfl, L, rfl, hL, hn, hz, hk⟩ | ⟨rfl, rfl, rfl, hs⟩
  · obtain ⟨d1, d2, d3⟩ := dec_digs v.toNat
    show Lib.decDigits v.toNat ≠ [] ∧ gapL false (Lib.decDigits v.toNat ++ 32 :: r) = 0 ∧ tokL (Lib.decDigits v.toNat ++ 32 :: r) = (1, noS, v, [], 0, (Lib.decDigits v.toNat).length)
    generalize Lib.decDigits v.toNat = D at d1 d2 d3
    have hd : digB (hereL D) = true := by
      cases D with
      | nil => exact absurd rfl d3
      | cons c q =>
        have := d1 c (by simp)
        unfold isDig at this
        show digB (c.toNat : Int) = true
        simp only [digB, Bool.and_eq_true, decide_eq_true_eq]
        omega
    have hd2 : 37 < hereL D := by
      simp only [digB, Bool.and_eq_true, decide_eq_true_eq] at hd
      omega
    refine ⟨d3, gap_app _ d3 hd2, ?_⟩
    have hrun : runL digB (D ++ 32 :: r) = D.length := run_all digB (32 :: r) (.inr rfl) D (fun c hc => by
      have := d1 c hc
      unfold isDig at this
      simp only [digB, Bool.and_eq_true, decide_eq_true_eq]
      omega)
    have hh := here_app (32 :: r) d3
    have ht : tokIntL (D ++ 32 :: r) = (v, 0) := by
      rw [tokInt_val (by rw [hh]; exact hd), hrun, List.take_left, List.drop_left, d2, if_neg]
      · congr 1
        omega
      · intro h3
        rcases h3 with h3 | h3 | h3
        · omega
        · cases h3
        · cases h3
    unfold tokL
    rw [hh, if_pos hd, ht, hrun]
  · show 34 :: (spQ b ++ [34]) ≠ [] ∧ gapL false (34 :: (spQ b ++ [34]) ++ 32 :: r) = 0 ∧ tokL (34 :: (spQ b ++ [34]) ++ 32 :: r) = (4, noS, 0, b, 0, (34 :: (spQ b ++ [34])).length)
    have e : 34 :: (spQ b ++ [34]) ++ 32 :: r = 34 :: (spQ b ++ 34 :: 32 :: r) := by simp
    rw [e]
    refine ⟨by simp, gap_none _ (by decide) (by decide), ?_⟩
    unfold tokL
    have hh : hereL (34 :: (spQ b ++ 34 :: 32 :: r)) = 34 := rfl
    rw [hh, if_neg (by decide : ¬ digB 34 = true), if_pos rfl]
    rw [show (34 :: (spQ b ++ 34 :: 32 :: r) : List UInt8).drop 1 = spQ b ++ 34 :: 32 :: r from rfl, quoted_spell _ _ hb]
    simp only [List.length_cons, List.length_append, List.length_nil]
    congr 5
    omega
  · have hk4 : ¬ kd = 4 := by
      rcases hk with ⟨e, _⟩ | ⟨e, _⟩
      · omega
      · intro e2
        rw [e2] at e
        split at e <;> omega
    have hk1 : ¬ kd = 1 := by
      rcases hk with ⟨e, _⟩ | ⟨e, _⟩
      · omega
      · intro e2
        rw [e2] at e
        split at e <;> omega
    have es : spT kd (arr L) 0 [] = L := by
      unfold spT
      rw [if_neg hk4, if_neg hk1]
      simp [arr]
    rw [es]
    have hh := here_app (32 :: r) hL
    have hh1 : namB (hereL L) = true ∧ 48 ≤ hereL L := by
      cases L with
      | nil => exact absurd rfl hL
      | cons c q =>
        have h1 := hn c (by simp)
        have h2 := byte_nam c h1
        refine ⟨h1, ?_⟩
        show (48 : Int) ≤ (c.toNat : Int)
        omega
    have hrun : runL namB (L ++ 32 :: r) = L.length := run_all namB (32 :: r) (.inr rfl) L hn
    refine ⟨hL, gap_app _ hL (by omega), ?_⟩
    unfold tokL
    rw [hh, hrun, List.take_left]
    rcases hk with ⟨rfl, hg⟩ | ⟨rfl, hm⟩
    · have hg' := hg
      simp only [greB, Bool.or_eq_true, Bool.and_eq_true, decide_eq_true_eq, beq_iff_eq] at hg'
      have n1 : ¬ digB (hereL L) = true := by
        simp only [digB, Bool.and_eq_true, decide_eq_true_eq]
        omega
      rw [if_neg n1, if_neg (by omega), if_pos hg, if_neg (by omega)]
    · have hm' := hm
      simp only [smaB, Bool.and_eq_true, decide_eq_true_eq] at hm'
      have n1 : ¬ digB (hereL L) = true := by
        simp only [digB, Bool.and_eq_true, decide_eq_true_eq]
        omega
      have n2 : ¬ greB (hereL L) = true := by
        simp only [greB, Bool.or_eq_true, Bool.and_eq_true, decide_eq_true_eq, beq_iff_eq]
        omega
      rw [if_neg n1, if_neg (by omega), if_neg n2, if_pos hm, if_neg (by omega)]
  · have S := sign_spell nm hs r
    exact S
def spS (t : S33) : List UInt8 := spT t.f0 t.f1 t.f2 t.f3
def GoodS (t : S33) : Prop := Good t.f0 t.f1 t.f2 t.f3
def spAll : List S33 → List UInt8
  | [] => []
  | t :: r => spS t ++ 32 :: spAll r
/-- two tokens but for their places -/
def SameS (a b : S33) : Prop := a.f0 = b.f0 ∧ a.f1 = b.f1 ∧ a.f2 = b.f2 ∧ a.f3 = b.f3
def Same2 : List S33 → List S33 → Prop
  | [], [] => True
  | a :: l, b :: r => SameS a b ∧ Same2 l r
  | _, _ => False
theorem scan_goods : ∀ (m c i : Nat) (l : List UInt8), ∀ t ∈ (scanL m c i l).1, GoodS t
  | 0, c, i, l, t, ht => by cases ht
  | m + 1, c, i, l, t, ht => by
    unfold scanL at ht
    dsimp only at ht
    generalize l.drop (gapL false l) = r at ht
    by_cases hz : r = []
    · rw [if_pos hz] at ht; cases ht
    rw [if_neg hz] at ht
    by_cases hc : c = 4000
    · rw [if_pos hc] at ht; cases ht
    rw [if_neg hc] at ht
    by_cases he : tokE r = 0
    · rw [if_pos he] at ht
      by_cases hx : (scanL m (c + 1) (i + gapL false l + tokN r) (r.drop (tokN r))).2.2 = 0
      · rw [if_pos hx] at ht
        rcases List.mem_cons.mp ht with e | ht
        · rw [e]
          exact tok_good hz he
        · exact scan_goods m _ _ _ t ht
      · rw [if_neg hx] at ht; cases ht
    · rw [if_neg he] at ht; cases ht
theorem scan_back : ∀ (ts : List S33) (m c i g : Nat) (l : List UInt8), (∀ t ∈ ts, GoodS t) → gapL false l = g → l.drop g = spAll ts → ts.length < m → c + ts.length ≤ 4000 →
    ∃ us, scanL m c i l = (us, 0, 0) ∧ Same2 us ts
  | [], m + 1, c, i, g, l, hG, hg, hr, hm, hc => by
    refine ⟨[], ?_, trivial⟩
    unfold scanL
    dsimp only
    rw [hg, if_pos (show l.drop g = [] from hr)]
  | t :: ts, m + 1, c, i, g, l, hG, hg, hr, hm, hc => by
    have hr' : l.drop g = spS t ++ 32 :: spAll ts := hr
    obtain ⟨S1, S2, S3⟩ := spell_scan (hG t (by simp)) (spAll ts)
    have S3 : tokL (spS t ++ 32 :: spAll ts) = (t.f0, t.f1, t.f2, t.f3, 0, (spS t).length) := S3
    simp only [List.length_cons] at hm hc
    have gn : gapL false (32 :: spAll ts) = 1 := by
      have e : gapL false (32 :: spAll ts) = gapL false (spAll ts) + 1 := rfl
      rw [e]
      cases ts with
      | nil => rfl
      | cons u q =>
        have := (spell_scan (hG u (by simp)) (spAll q)).2.1
        have e2 : gapL false (spAll (u :: q)) = 0 := this
        rw [e2]
    obtain ⟨us, I1, I2⟩ := scan_back ts m (c + 1) (i + g + (spS t).length) 1 (32 :: spAll ts) (fun u hu => hG u (List.mem_cons_of_mem _ hu)) gn rfl (by omega) (by omega)
    refine ⟨tokS (i + g) (spS t ++ 32 :: spAll ts) :: us, ?_, ?_, I2⟩
    · unfold scanL
      dsimp only
      have he : tokE (spS t ++ 32 :: spAll ts) = 0 := by unfold tokE; rw [S3]
      have hn : tokN (spS t ++ 32 :: spAll ts) = (spS t).length := by unfold tokN; rw [S3]
      have hd : (spS t ++ 32 :: spAll ts).drop (spS t).length = 32 :: spAll ts := List.drop_left
      rw [hg, hr', if_neg (by simp), if_neg (by omega), if_pos he, hn, hd, I1]
      rfl
    · unfold SameS tokS
      rw [S3]
      exact ⟨rfl, rfl, rfl, rfl⟩
  | ts, 0, c, i, g, l, hG, hg, hr, hm, hc => by omega
theorem index_low : ∀ (s p : List UInt8), -1 ≤ Lib.index s p
  | [], p => by
    unfold Lib.index
    split <;> omega
  | b :: l, p => by
    have := index_low l p
    unfold Lib.index
    split
    · omega
    · split <;> omega
theorem contains_cons (b : UInt8) (l p : List UInt8) : Lib.contains (b :: l) p = (p.isPrefixOf (b :: l) || Lib.contains l p) := by
  have h := index_low l p
  unfold Lib.contains
  conv => lhs; unfold Lib.index
  by_cases h1 : p.isPrefixOf (b :: l) = true
  · rw [if_pos h1, h1]
    simp
  · rw [if_neg h1, Bool.eq_false_iff.mpr h1]
    by_cases h2 : Lib.index l p = -1
    · simp [h2]
    · have h3 : ¬ (Lib.index l p == -1) = true := by simpa using h2
      rw [if_neg h3, Bool.false_or]
      exact decide_eq_decide.mpr (by omega)
theorem contains_nil (c : UInt8) (p : List UInt8) : Lib.contains [] (c :: p) = false := rfl
theorem contains_one (c : UInt8) : ∀ l : List UInt8, Lib.contains l [c] = decide (c ∈ l)
  | [] => by simp [contains_nil]
  | b :: l => by
    rw [contains_cons, contains_one c l]
    by_cases h : c = b
    · simp [List.isPrefixOf, h]
    · simp [List.isPrefixOf, h]
theorem pre_word (rest : List UInt8) : ∀ (L w : List UInt8), 32 ∉ L → 32 ∉ w → (L ++ [32]).isPrefixOf (w ++ 32 :: rest) = decide (L = w)
  | [], [], _, _ => by simp [List.isPrefixOf]
  | [], c :: w, _, h => by
    have : ¬ (32 : UInt8) = c := fun e => h (by simp [e])
    simp [List.isPrefixOf, this]
  | a :: L, [], h, _ => by
    have : ¬ a = (32 : UInt8) := fun e => h (by simp [e])
    simp [List.isPrefixOf, this]
  | a :: L, c :: w, h, h' => by
    have IH := pre_word rest L w (fun e => h (List.mem_cons_of_mem _ e)) (fun e => h' (List.mem_cons_of_mem _ e))
    simp only [List.cons_append, List.isPrefixOf, IH]
    by_cases e : a = c
    · simp [e]
    · simp [e]
def wordL : List (List UInt8) := [[99, 97, 115, 101], [111, 102], [101, 110, 100], [114, 101, 99, 101, 105, 118, 101], [97, 102, 116, 101, 114], [114, 101, 109]]
theorem words_list : wordsB.data.toList = 32 :: ([99, 97, 115, 101] ++ 32 :: ([111, 102] ++ 32 :: ([101, 110, 100] ++ 32 :: ([114, 101, 99, 101, 105, 118, 101] ++ 32 :: ([97, 102, 116, 101, 114] ++ 32 :: ([114, 101, 109] ++ 32 :: [])))))) := rfl
theorem contains_far (p : List UInt8) : ∀ (w l : List UInt8), 32 ∉ w → Lib.contains (w ++ l) (32 :: p) = Lib.contains l (32 :: p)
  | [], l, _ => rfl
  | c :: w, l, h => by
    have hc : ¬ (32 : UInt8) = c := fun e => h (by simp [e])
    rw [List.cons_append, contains_cons, contains_far p w l (fun e => h (List.mem_cons_of_mem _ e))]
    simp [List.isPrefixOf, hc]
theorem contains_at (L w l : List UInt8) (h : 32 ∉ L) (h' : 32 ∉ w) : Lib.contains (32 :: (w ++ 32 :: l)) (32 :: (L ++ [32])) = (decide (L = w) || Lib.contains (32 :: l) (32 :: (L ++ [32]))) := by
  rw [contains_cons, contains_far _ w _ h']
  have e : (32 :: (L ++ [32])).isPrefixOf (32 :: (w ++ 32 :: l)) = decide (L = w) := by
    rw [← pre_word l L w h h']
    simp [List.isPrefixOf]
  rw [e]
theorem word_in (L : List UInt8) (h : 32 ∉ L) (h0 : L ≠ []) : Lib.contains wordsB.data.toList (32 :: (L ++ [32])) = decide (L ∈ wordL) := by
  rw [words_list, contains_at L _ _ h (by decide), contains_at L _ _ h (by decide), contains_at L _ _ h (by decide), contains_at L _ _ h (by decide), contains_at L _ _ h (by decide), contains_at L _ _ h (by decide)]
  have e : Lib.contains [32] (32 :: (L ++ [32])) = false := by
    rw [contains_cons, contains_nil]
    cases L with
    | nil => exact absurd rfl h0
    | cons a L => simp [List.isPrefixOf]
  rw [e]
  simp only [wordL, List.mem_cons, List.not_mem_nil, or_false, Bool.decide_or, Bool.or_false]
theorem loop_ne (s : ByteArray) : ∀ (d i : Nat) (r : List UInt8), s.size - i = d → r ≠ [] → ByteArray.toList.loop s i r ≠ []
  | 0, i, r, h, hr => by
    unfold ByteArray.toList.loop
    rw [if_neg (by omega)]
    simpa using hr
  | d + 1, i, r, h, hr => by
    unfold ByteArray.toList.loop
    rw [if_pos (by omega)]
    exact loop_ne s d (i + 1) _ (by omega) (by simp)
theorem toList_nil (s : ByteArray) : s.toList.isEmpty = s.data.toList.isEmpty := by
  have hz : s.data.toList.length = s.size := rfl
  unfold ByteArray.toList
  by_cases h : 0 < s.size
  · have h1 : s.data.toList ≠ [] := fun e => by rw [e] at hz; simp at hz; omega
    have h2 : ByteArray.toList.loop s 0 [] ≠ [] := by
      unfold ByteArray.toList.loop
      rw [if_pos h]
      exact loop_ne s _ _ _ rfl (by simp)
    rw [List.isEmpty_eq_false_iff.mpr h1, List.isEmpty_eq_false_iff.mpr h2]
  · have h1 : s.data.toList = [] := List.eq_nil_of_length_eq_zero (by omega)
    have h2 : ByteArray.toList.loop s 0 [] = [] := by
      unfold ByteArray.toList.loop
      rw [if_neg h]
      rfl
    rw [h1, h2]
theorem word_law (s : ByteArray) : lexWord s = decide (s.data.toList ∈ wordL) := by
  unfold lexWord
  rw [toList_nil, contains_one]
  have e : (((⟨#[32]⟩ : ByteArray) ++ s) ++ ⟨#[32]⟩).data.toList = 32 :: (s.data.toList ++ [32]) := by
    simp [ByteArray.data_append]
  rw [e]
  generalize s.data.toList = L
  by_cases h0 : L = []
  · subst h0
    rfl
  by_cases h : 32 ∈ L
  · have hn : ¬ L ∈ wordL := by
      intro hm
      have : ∀ w ∈ wordL, (32 : UInt8) ∉ w := by decide
      exact this L hm h
    simp [h, hn]
  · rw [word_in L h h0]
    cases L with
    | nil => exact absurd rfl h0
    | cons a L => simp [h]
end Go.Proofs.YtgkbmdlelcbmhaaDoor
