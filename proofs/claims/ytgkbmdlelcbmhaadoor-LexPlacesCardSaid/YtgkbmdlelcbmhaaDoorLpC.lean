/- lex, the plain law: what the document's own scan answers: gap, number, text. lex, the plain law: what the document's own scan answers: a token, the whole scan. lex, the plain law: the document's own scan as a whole; two lists of tokens held against one another. -/
import Derived.Test.YtgkbmdlelcbmhaaDoorLpB
import Derived.Test.YtgkbmdlelcbmhaaDoorPLexx6
import Derived.Test.YtgkbmdlelcbmhaaDoorPLexx7
namespace Go.Proofs.YtgkbmdlelcbmhaaDoor
open Go.RowKit Go.Proofs.YtgkbmdlelcbmhaaDoor.PLex Go.Proofs.YtgkbmdlelcbmhaaDoorW.PrintWords
set_option linter.all false

theorem loop_all (s : ByteArray) : ∀ (d i : Nat) (r : List UInt8), s.size - i = d → ByteArray.toList.loop s i r = r.reverse ++ s.data.toList.drop i
  | 0, i, r, h => by
    unfold ByteArray.toList.loop
    have hz : s.data.toList.length = s.size := rfl
    rw [if_neg (by omega), List.drop_eq_nil_of_le (by omega), List.append_nil]
  | d + 1, i, r, h => by
    unfold ByteArray.toList.loop
    have hz : s.data.toList.length = s.size := rfl
    have hl : i < s.data.toList.length := by omega
    rw [if_pos (by omega), loop_all s d (i + 1) _ (by omega), List.drop_eq_getElem_cons hl]
    have e : s.get! i = s.data.toList[i] := by
      show s.data[i]! = _
      rw [getElem!_pos s.data i (by exact hl)]
      rfl
    rw [e]
    simp
theorem toList_all (s : ByteArray) : s.toList = s.data.toList := by
  unfold ByteArray.toList
  rw [loop_all s _ 0 [] rfl]
  simp
theorem arr_list (l : List UInt8) : (arr l).toList = l := by
  rw [toList_all]
  simp [arr]
theorem rgap_ev (s : ByteArray) (hs : s.size ≤ 16384) : ∀ (l : List UInt8) (b : Bool) (i : Nat), s.data.toList.drop i = l → i ≤ s.size →
    Ev (fun k => if b = true then rookeryref15_gap.l1 k s i else rookeryref15_gap.l0 k s i) ((i + gapL b l : Nat) : Int)
  | [], b, i, h, hi => by
    have hz := drop_nil h
    have h0 : Ev (fun k => rookeryref15_gap.l0 k s i) ((i + 0 : Nat) : Int) := by
      refine Ev.succ ?_
      simp only [rookeryref15_gap.l0]
      exact Ev.iteF (by omega) (Ev.pure _)
    cases b with
    | false => exact h0
    | true =>
      refine Ev.iteT rfl ?_
      refine Ev.succ ?_
      simp only [rookeryref15_gap.l1]
      exact Ev.iteF (by omega) h0
  | c :: r, b, i, h, hi => by
    obtain ⟨h1, h2, h3⟩ := drop_cons h
    have w1 : wrap64 ((i : Int) + 1) = ((i + 1 : Nat) : Int) := wrapN (by omega)
    have IHf := rgap_ev s hs r false (i + 1) h3 (by omega)
    have IHt := rgap_ev s hs r true (i + 1) h3 (by omega)
    simp only [Bool.false_eq_true, if_false, if_true] at IHf IHt
    have e1 : ∀ n, ((i + 1 + n : Nat) : Int) = ((i + (n + 1) : Nat) : Int) := fun n => by omega
    rw [e1] at IHf IHt
    have hl0 : Ev (fun k => rookeryref15_gap.l0 k s i) ((i + gapL false (c :: r) : Nat) : Int) := by
      refine Ev.succ ?_
      simp only [rookeryref15_gap.l0, h2, w1, gapL]
      refine Ev.iteT (by omega) (Ev.iteT (by omega) ?_)
      by_cases c1 : c.toNat = 37
      · rw [if_pos c1]
        refine Ev.iteT (by omega) ?_
        refine Ev.succ ?_
        simp only [rookeryref15_gap.l1, h2, w1]
        exact Ev.iteT (by omega) (Ev.iteT (by omega) (Ev.iteF (by omega) IHt))
      rw [if_neg c1]
      refine Ev.iteF (by omega) ?_
      by_cases c2 : c.toNat = 32
      · rw [if_pos (by omega)]
        exact Ev.iteT (by omega) IHf
      refine Ev.iteF (by omega) ?_
      by_cases c3 : c.toNat = 9
      · rw [if_pos (by omega)]
        exact Ev.iteT (by omega) IHf
      refine Ev.iteF (by omega) ?_
      by_cases c4 : c.toNat = 10
      · rw [if_pos (by omega)]
        exact Ev.iteT (by omega) IHf
      refine Ev.iteF (by omega) ?_
      by_cases c5 : c.toNat = 13
      · rw [if_pos (by omega)]
        exact Ev.iteT (by omega) IHf
      rw [if_neg (by omega)]
      exact Ev.iteF (by omega) (Ev.pure _)
    cases b with
    | false => exact hl0
    | true =>
      refine Ev.iteT rfl ?_
      refine Ev.succ ?_
      simp only [rookeryref15_gap.l1, h2, w1]
      refine Ev.iteT (by omega) (Ev.iteT (by omega) ?_)
      by_cases c1 : c.toNat = 10
      · have e : gapL true (c :: r) = gapL false (c :: r) := by simp [gapL, c1]
        rw [e]
        exact Ev.iteT (by omega) hl0
      · have e : gapL true (c :: r) = gapL true r + 1 := by simp [gapL, c1]
        rw [e]
        exact Ev.iteF (by omega) IHt
theorem rgap (s : ByteArray) (hs : s.size ≤ 16384) (l : List UInt8) (i : Nat) (h : s.data.toList.drop i = l) (hi : i ≤ s.size) : Ev (fun k => rookeryref15_gap.f k s (i : Int)) ((i + gapL false l : Nat) : Int) := by
  have := rgap_ev s hs l false i h hi
  simp only [Bool.false_eq_true, if_false] at this
  exact this
theorem btw (c a b : Int) : rookeryref15_between.f c a b = some (decide (a ≤ c) && decide (c ≤ b)) := by
  unfold rookeryref15_between.f
  by_cases h : a ≤ c
  · rw [if_pos h]
    simp [h]
  · rw [if_neg h]
    simp [h]
theorem rname (c : Int) : rookeryref15_name.f c = some (namB c) := by
  unfold rookeryref15_name.f
  rw [btw, btw, btw]
  simp only [Option.bind_some]
  unfold namB smaB greB digB
  by_cases h1 : (decide (97 ≤ c) && decide (c ≤ 122)) = true
  · rw [if_pos h1, h1]; simp
  rw [if_neg h1, Bool.eq_false_iff.mpr h1]
  by_cases h2 : (decide (65 ≤ c) && decide (c ≤ 90)) = true
  · rw [if_pos h2, h2]; simp
  rw [if_neg h2, Bool.eq_false_iff.mpr h2]
  by_cases h3 : (decide (48 ≤ c) && decide (c ≤ 57)) = true
  · rw [if_pos h3, h3]; simp
  rw [if_neg h3, Bool.eq_false_iff.mpr h3]
  simp
theorem wrap_id {x : Int} (h1 : -9223372036854775808 ≤ x) (h2 : x ≤ 9223372036854775807) : wrap64 x = x := by
  unfold wrap64
  omega
theorem btw_dig (c : Int) : rookeryref15_between.f c 48 57 = some (digB c) := btw c 48 57
/-- number, of a digit that stands at i, no digit there -/
theorem num_dig (s : ByteArray) (at_ n : Int) (i : Nat) (big : Bool) (c : UInt8) (r : List UInt8) (h : s.data.toList.drop i = c :: r) (hs : s.size ≤ 16384) (hc : isDig c) (a) 
    (H : Ev (fun k => if n > (4611686018427387903 - ((c.toNat : Int) - 48)) / 10 then rookeryref15_number.l0 k s at_ n ((i + 1 : Nat) : Int) true else rookeryref15_number.l0 k s at_ (wrap64 (wrap64 (n * 10) + ((c.toNat : Int) - 48))) ((i + 1 : Nat) : Int) big) a) :
    Ev (fun k => rookeryref15_number.l0 k s at_ n (i : Int) big) a := by
  obtain ⟨h1, h2, h3⟩ := drop_cons h
  unfold isDig at hc
  have w1 : wrap64 ((i : Int) + 1) = ((i + 1 : Nat) : Int) := wrapN (by omega)
  have w2 : ((c.toNat : Int) - 48) % 256 = (c.toNat : Int) - 48 := by omega
  have hd : digB (c.toNat : Int) = true := by
    simp only [digB, Bool.and_eq_true, decide_eq_true_eq]
    omega
  refine Ev.succ ?_
  simp only [rookeryref15_number.l0, h2, btw_dig, hd, Option.bind_some]
  refine Ev.iteT (by omega) (Ev.iteT (by omega) (Ev.succ ?_))
  simp only [rookeryref15_number.j1, h2, w1, w2]
  exact Ev.iteT trivial (Ev.iteT (by omega) (Ev.iteT (by omega) H))
theorem num_end (s : ByteArray) (at_ n : Int) (i : Nat) (big : Bool) (l : List UInt8) (h : s.data.toList.drop i = l) (hd : digB (hereL l) = false) (a)
    (H : (big = true ∨ namB (hereL l) = true → a = (0, noS, 0, [], 0, (i : Int), 152)) ∧ (¬ (big = true ∨ namB (hereL l) = true) → a = (1, noS, n, [], at_, (i : Int), 0))) :
    Ev (fun k => rookeryref15_number.l0 k s at_ n (i : Int) big) a := by
  cases l with
  | nil =>
    have hz := drop_nil h
    refine Ev.succ ?_
    simp only [rookeryref15_number.l0]
    refine Ev.iteF (by omega) (Ev.succ ?_)
    simp only [rookeryref15_number.j1]
    refine Ev.iteF (by simp) ?_
    cases big with
    | true =>
      rw [H.1 (.inl rfl)]
      exact Ev.iteT rfl (Ev.pure _)
    | false =>
      rw [H.2 (by intro h; rcases h with h | h <;> cases h)]
      exact Ev.iteF (by simp) (Ev.iteF (by omega) (Ev.pure _))
  | cons c r =>
    obtain ⟨h1, h2, h3⟩ := drop_cons h
    have hd : digB (c.toNat : Int) = false := hd
    refine Ev.succ ?_
    simp only [rookeryref15_number.l0, h2, btw_dig, hd, Option.bind_some]
    refine Ev.iteT (by omega) (Ev.iteT (by omega) (Ev.succ ?_))
    simp only [rookeryref15_number.j1, h2, rname, Option.bind_some]
    refine Ev.iteF (by simp) ?_
    cases big with
    | true =>
      rw [H.1 (.inl rfl)]
      exact Ev.iteT rfl (Ev.pure _)
    | false =>
      refine Ev.iteF (by simp) (Ev.iteT (by omega) (Ev.iteT (by omega) ?_))
      by_cases hn : namB (c.toNat : Int) = true
      · rw [H.1 (.inr hn)]
        exact Ev.iteT hn (Ev.pure _)
      · rw [H.2 (by intro h; rcases h with h | h; exact absurd h (by simp); exact hn h)]
        exact Ev.iteF hn (Ev.pure _)
theorem dig_step {c : UInt8} {r : List UInt8} (hc : digB (c.toNat : Int) = true) : runL digB (c :: r) = runL digB r + 1 ∧ isDig c := by
  refine ⟨by simp [runL, hc], ?_⟩
  simp only [digB, Bool.and_eq_true, decide_eq_true_eq] at hc
  unfold isDig
  omega
theorem dig_stop {c : UInt8} {r : List UInt8} (hc : ¬ digB (c.toNat : Int) = true) : runL digB (c :: r) = 0 := by simp [runL, hc]
theorem num_big (s : ByteArray) (hs : s.size ≤ 16384) (at_ : Int) : ∀ (l : List UInt8) (i : Nat) (n : Int), s.data.toList.drop i = l → 0 ≤ n → n ≤ 4611686018427387903 →
    Ev (fun k => rookeryref15_number.l0 k s at_ n (i : Int) true) (0, noS, 0, [], 0, ((i + runL digB l : Nat) : Int), 152)
  | [], i, n, h, h0, h1 => by
    exact num_end s at_ n i true [] h rfl _ ⟨fun _ => rfl, fun e => absurd (.inl rfl) e⟩
  | c :: r, i, n, h, h0, h1 => by
    obtain ⟨g1, g2, g3⟩ := drop_cons h
    by_cases hc : digB (c.toNat : Int) = true
    · obtain ⟨e1, e2⟩ := dig_step (r := r) hc
      refine num_dig s at_ n i true c r h hs e2 _ ?_
      unfold isDig at e2
      rw [e1, show i + (runL digB r + 1) = i + 1 + runL digB r by omega]
      by_cases hb : n > (4611686018427387903 - ((c.toNat : Int) - 48)) / 10
      · exact Ev.iteT hb (num_big s hs at_ r (i + 1) n g3 h0 h1)
      · refine Ev.iteF hb ?_
        have e : wrap64 (wrap64 (n * 10) + ((c.toNat : Int) - 48)) = n * 10 + ((c.toNat : Int) - 48) := by
          rw [wrap_id (x := n * 10) (by omega) (by omega), wrap_id (by omega) (by omega)]
        rw [e]
        exact num_big s hs at_ r (i + 1) _ g3 (by omega) (by omega)
    · rw [dig_stop hc]
      exact num_end s at_ n i true (c :: r) h (Bool.eq_false_iff.mpr hc) _ ⟨fun _ => rfl, fun e => absurd (.inl rfl) e⟩
theorem num_ok (s : ByteArray) (hs : s.size ≤ 16384) (at_ : Int) : ∀ (l : List UInt8) (i n : Nat), s.data.toList.drop i = l → n ≤ 4611686018427387903 →
    Ev (fun k => rookeryref15_number.l0 k s at_ (n : Int) (i : Int) false)
      (if 4611686018427387903 < valN n (l.take (runL digB l)) ∨ namB (hereL (l.drop (runL digB l))) = true then (0, noS, 0, [], 0, ((i + runL digB l : Nat) : Int), 152) else (1, noS, (valN n (l.take (runL digB l)) : Int), [], at_, ((i + runL digB l : Nat) : Int), 0))
  | [], i, n, h, h1 => by
    refine num_end s at_ n i false [] h rfl _ ⟨fun e => ?_, fun _ => if_neg ?_⟩
    · rcases e with e | e <;> cases e
    · intro e
      rcases e with e | e
      · have e2 : valN n (([] : List UInt8).take (runL digB [])) = n := rfl
        omega
      · cases e
  | c :: r, i, n, h, h1 => by
    obtain ⟨g1, g2, g3⟩ := drop_cons h
    by_cases hc : digB (c.toNat : Int) = true
    · obtain ⟨e1, e2⟩ := dig_step (r := r) hc
      refine num_dig s at_ n i false c r h hs e2 _ ?_
      unfold isDig at e2
      rw [e1, show i + (runL digB r + 1) = i + 1 + runL digB r by omega, List.take_succ_cons, List.drop_succ_cons]
      have ev : valN n (c :: r.take (runL digB r)) = valN (n * 10 + (c.toNat - 48)) (r.take (runL digB r)) := rfl
      rw [ev]
      by_cases hb : (n : Int) > (4611686018427387903 - ((c.toNat : Int) - 48)) / 10
      · have hg := valN_ge (r.take (runL digB r)) (n * 10 + (c.toNat - 48))
        rw [if_pos (.inl (by omega))]
        exact Ev.iteT hb (num_big s hs at_ r (i + 1) n g3 (by omega) (by omega))
      · refine Ev.iteF hb ?_
        have e : wrap64 (wrap64 ((n : Int) * 10) + ((c.toNat : Int) - 48)) = ((n * 10 + (c.toNat - 48) : Nat) : Int) := by
          rw [wrap_id (x := (n : Int) * 10) (by omega) (by omega), wrap_id (by omega) (by omega)]
          omega
        rw [e]
        exact num_ok s hs at_ r (i + 1) _ g3 (by omega)
    · rw [dig_stop hc]
      have e : valN n ((c :: r).take 0) = n := rfl
      rw [e, List.drop_zero]
      refine num_end s at_ n i false (c :: r) h (Bool.eq_false_iff.mpr hc) _ ⟨fun e => if_pos ?_, fun e => if_neg ?_⟩
      · rcases e with e | e
        · cases e
        · exact .inr e
      · intro e2
        rcases e2 with e2 | e2
        · omega
        · exact e (.inr e2)
/-! ### texts within quotes -/
def dgt (c : Int) : Int := if digB c = true then (c - 48) % 256 else if (decide (97 ≤ c) && decide (c ≤ 102)) = true then (c - 97) % 256 + 10 else -1
theorem rdigit (c : Int) : rookeryref15_digit.f c = some (dgt c) := by
  unfold rookeryref15_digit.f dgt
  rw [btw_dig, btw]
  simp only [Option.bind_some]
  split
  · rfl
  · split <;> rfl
theorem dgt_all : ∀ n : Nat, n < 256 → dgt (n : Int) = hx (UInt8.ofNat n) := by decide +kernel
theorem dgt_hx (c : UInt8) : dgt (c.toNat : Int) = hx c := by
  have := dgt_all c.toNat c.toNat_lt
  rwa [UInt8.ofNat_toNat] at this
theorem hx_le_all : ∀ n : Nat, n < 256 → hx (UInt8.ofNat n) ≤ 15 := by decide +kernel
theorem hx_le (c : UInt8) : hx c ≤ 15 := by
  have := hx_le_all c.toNat c.toNat_lt
  rwa [UInt8.ofNat_toNat] at this
theorem two_all : ∀ x : Nat, x < 16 → ∀ y : Nat, y < 16 → (wrap64 (wrap64 (16 * (x : Int)) + (y : Int))) % 256 = (Go.bits .or .i64 (wrap64 ((x : Int) * 16)) (Go.bits .and .i64 (y : Int) 15)) % 256 := by decide +kernel
theorem two_hx {a b : UInt8} (ha : 0 ≤ hx a) (hb : 0 ≤ hx b) : (wrap64 (wrap64 (16 * hx a) + hx b)) % 256 = hxv a b := by
  have la := hx_le a
  have lb := hx_le b
  obtain ⟨x, ex⟩ := Int.eq_ofNat_of_zero_le ha
  obtain ⟨y, ey⟩ := Int.eq_ofNat_of_zero_le hb
  unfold hxv
  rw [ex, ey]
  exact two_all x (by omega) y (by omega)
abbrev TxR := Int × ByteArray × Int × List Int × Int × Int × Int
def TEv (at_ : Int) (i : Nat) (acc : List Int) (f : Nat → Option TxR) : Option (List Int × Nat) → Prop
  | some (l, n) => Ev f (4, noS, 0, acc ++ l, at_, ((i + n : Nat) : Int), 0)
  | none => ∃ p, Ev f (0, noS, 0, [], 0, p, 154)
theorem TEv.addB {at_ : Int} {i n : Nat} {acc : List Int} {v : Int} {f : Nat → Option TxR} {o : Option (List Int × Nat)} (h : TEv at_ (i + n) (acc ++ [v]) f o) : TEv at_ i acc f (addB v n o) := by
  cases o with
  | none => exact h
  | some p =>
    obtain ⟨l, m⟩ := p
    have h : Ev f (4, noS, 0, acc ++ [v] ++ l, at_, ((i + n + m : Nat) : Int), 0) := h
    rw [List.append_assoc, List.singleton_append, show i + n + m = i + (m + n) by omega] at h
    exact h
theorem TEv.map {at_ : Int} {i : Nat} {acc : List Int} {f g : Nat → Option TxR} {o : Option (List Int × Nat)} (hm : ∀ a, Ev f a → Ev g a) (h : TEv at_ i acc f o) : TEv at_ i acc g o := by
  cases o with
  | none => obtain ⟨p, h⟩ := h; exact ⟨p, hm _ h⟩
  | some p => exact hm _ h
theorem q_bs {c : UInt8} (c3 : c.toNat = 92) (r : List UInt8) : quotedL (c :: r) = (match escL r with | some (v, m) => addB v (1 + m) (quotedL (r.drop m)) | none => none) := by
  conv => lhs; unfold quotedL
  rw [if_neg (by omega), if_neg (by omega), if_pos c3, quoted_esc]
  rfl
theorem esc_n {d : UInt8} (h : d.toNat = 110) (r : List UInt8) : escL (d :: r) = some (10, 1) := by
  unfold escL
  dsimp only
  rw [if_pos h]
theorem esc_t {d : UInt8} (h : d.toNat = 116) (r : List UInt8) : escL (d :: r) = some (9, 1) := by
  unfold escL
  dsimp only
  rw [if_neg (by omega), if_pos h]
theorem esc_e {d : UInt8} (h : d.toNat = 34 ∨ d.toNat = 92) (r : List UInt8) : escL (d :: r) = some ((d.toNat : Int), 1) := by
  unfold escL
  dsimp only
  rw [if_neg (by omega), if_neg (by omega), if_pos h]
theorem esc_x {d : UInt8} (h : d.toNat = 120) (a b : UInt8) (r : List UInt8) : escL (d :: a :: b :: r) = if 0 ≤ hx a ∧ 0 ≤ hx b then some (hxv a b, 3) else none := by
  unfold escL
  dsimp only
  rw [if_neg (by omega), if_neg (by omega), if_neg (by omega), if_pos h]
theorem esc_x0 {d : UInt8} (h : d.toNat = 120) : escL [d] = none := by
  unfold escL
  dsimp only
  rw [if_neg (by omega), if_neg (by omega), if_neg (by omega), if_pos h]
theorem esc_x1 {d : UInt8} (h : d.toNat = 120) (a : UInt8) : escL [d, a] = none := by
  unfold escL
  dsimp only
  rw [if_neg (by omega), if_neg (by omega), if_neg (by omega), if_pos h]
theorem esc_no {d : UInt8} (h1 : d.toNat ≠ 110) (h2 : d.toNat ≠ 116) (h3 : ¬ (d.toNat = 34 ∨ d.toNat = 92)) (h4 : d.toNat ≠ 120) (r : List UInt8) : escL (d :: r) = none := by
  unfold escL
  dsimp only
  rw [if_neg h1, if_neg h2, if_neg h3, if_neg h4]
theorem rtext_bs (s : ByteArray) (at_ : Int) (i : Nat) (acc : List Int) (c d : UInt8) (r2 : List UInt8) (h : s.data.toList.drop i = c :: d :: r2) (hs : s.size ≤ 16384) (c3 : c.toNat = 92) (hal : acc.length < 140737488355328) (a)
    (ha : Ev (fun k => if (d.toNat : Int) = 110 then rookeryref15_text.l0 k s ((i + 2 : Nat) : Int) 4 noS 0 (acc ++ [10]) at_ else if (d.toNat : Int) = 116 then rookeryref15_text.l0 k s ((i + 2 : Nat) : Int) 4 noS 0 (acc ++ [9]) at_ else if (d.toNat : Int) = 34 then rookeryref15_text.j1 k s ((i + 1 : Nat) : Int) (d.toNat : Int) ((d.toNat : Int) == 34) 4 noS 0 acc at_ else rookeryref15_text.j1 k s ((i + 1 : Nat) : Int) (d.toNat : Int) ((d.toNat : Int) == 92) 4 noS 0 acc at_) a) :
    Ev (fun k => rookeryref15_text.l0 k s (i : Int) 4 noS 0 acc at_) a := by
  obtain ⟨h1, h2, h3⟩ := drop_cons h
  obtain ⟨u1, u2, u3⟩ := drop_cons h3
  have w1 : wrap64 ((i : Int) + 1) = ((i + 1 : Nat) : Int) := wrapN (by omega)
  have w2 : wrap64 (((i + 1 : Nat) : Int) + 1) = ((i + 2 : Nat) : Int) := wrapN (by omega)
  have hb : (decide (32 ≤ (c.toNat : Int)) && decide ((c.toNat : Int) ≤ 126)) = true := by
    simp only [Bool.and_eq_true, decide_eq_true_eq]
    omega
  refine Ev.succ ?_
  simp only [rookeryref15_text.l0, h2, btw, Option.bind_some, hb, w1, u2, w2]
  refine Ev.iteT (by omega) (Ev.iteT (by omega) (Ev.iteF (by omega) (Ev.iteT trivial (Ev.iteT (by omega) (Ev.iteF (by omega) (Ev.iteT (by omega) (Ev.iteT (by omega) ?_)))))))
  simp only [if_pos hal]
  exact ha
theorem room3 {i z : Nat} (hi : i ≤ z) (hz : z ≤ 16384) : wrap64 (((i + 1 : Nat) : Int) + 2) = ((i + 3 : Nat) : Int) ∧ wrap64 (((i + 3 : Nat) : Int) + 1) = ((i + 4 : Nat) : Int) := by
  unfold wrap64
  omega
theorem len_drop {s : ByteArray} {i : Nat} {l : List UInt8} (h : s.data.toList.drop i = l) (hi : i ≤ s.size) : s.size = i + l.length := by
  have e := congrArg List.length h
  simp only [List.length_drop] at e
  have : s.data.toList.length = s.size := rfl
  omega
theorem room4 {z i n : Nat} (h : z = i + 2 + (n + 2)) : ((i + 2 : Nat) : Int) < (z : Int) ∧ ((i + 3 : Nat) : Int) < (z : Int) ∧ ¬ ((i + 3 : Nat) : Int) ≥ (z : Int) ∧ i + 4 ≤ z := by
  omega
theorem rtext_ev (s : ByteArray) (hs : s.size ≤ 16384) (at_ : Int) : ∀ (n : Nat) (l : List UInt8) (i : Nat) (acc : List Int), l.length ≤ n → s.data.toList.drop i = l → i ≤ s.size → acc.length ≤ i →
    TEv at_ i acc (fun k => rookeryref15_text.l0 k s (i : Int) 4 noS 0 acc at_) (quotedL l)
  | n, [], i, acc, hn, h, hi, ha => by
    have hz := drop_nil h
    refine ⟨(i : Int), Ev.succ ?_⟩
    simp only [rookeryref15_text.l0]
    exact Ev.iteF (by omega) (Ev.pure _)
  | 0, c :: r, i, acc, hn, h, hi, ha => by simp at hn
  | n + 1, c :: r, i, acc, hn, h, hi, ha => by
    obtain ⟨h1, h2, h3⟩ := drop_cons h
    have w1 : wrap64 ((i : Int) + 1) = ((i + 1 : Nat) : Int) := wrapN (by omega)
    have hn' : r.length ≤ n := by simpa using hn
    have hal : acc.length < 140737488355328 := by omega
    have hc := c.toNat_lt
    by_cases c2 : c.toNat = 34
    · have e : quotedL (c :: r) = some ([], 1) := by
        unfold quotedL
        rw [if_neg (by omega), if_pos c2]
      rw [e]
      show Ev _ _
      rw [List.append_nil]
      refine Ev.succ ?_
      simp only [rookeryref15_text.l0, h2, w1]
      exact Ev.iteT (by omega) (Ev.iteT (by omega) (Ev.iteT (by omega) (Ev.pure _)))
    have i2 : ¬ (c.toNat : Int) = 34 := by omega
    by_cases c1 : c.toNat < 32 ∨ 126 < c.toNat
    · have e : quotedL (c :: r) = none := by
        unfold quotedL
        rw [if_pos c1]
      rw [e]
      refine ⟨(i : Int), Ev.succ ?_⟩
      simp only [rookeryref15_text.l0, h2, btw, Option.bind_some]
      refine Ev.iteT (by omega) (Ev.iteT (by omega) (Ev.iteF i2 (Ev.iteF ?_ (Ev.pure _))))
      simp only [Bool.and_eq_true, decide_eq_true_eq]
      omega
    have hb : (decide (32 ≤ (c.toNat : Int)) && decide ((c.toNat : Int) ≤ 126)) = true := by
      simp only [Bool.and_eq_true, decide_eq_true_eq]
      omega
    by_cases c3 : c.toNat = 92
    · have i3 : (c.toNat : Int) = 92 := by omega
      cases r with
      | nil =>
        have e : quotedL [c] = none := by
          rw [q_bs c3]
          rfl
        have hz := drop_nil h3
        rw [e]
        refine ⟨((i + 1 : Nat) : Int), Ev.succ ?_⟩
        simp only [rookeryref15_text.l0, h2, btw, Option.bind_some, hb, w1]
        exact Ev.iteT (by omega) (Ev.iteT (by omega) (Ev.iteF i2 (Ev.iteT trivial (Ev.iteT i3 (Ev.iteT (by omega) (Ev.pure _))))))
      | cons d r2 =>
        obtain ⟨u1, u2, u3⟩ := drop_cons h3
        have b2 : i + 2 ≤ s.size := u1
        have b3 : ∀ v : Int, (acc ++ [v]).length ≤ i + 2 := fun v => by rw [List.length_append]; exact Nat.add_le_add ha (show 1 ≤ 2 by decide)
        have b0 : (0 : Int) ≤ ((i + 1 : Nat) : Int) := Int.natCast_nonneg _
        have b1 : ((i + 1 : Nat) : Int) < (s.size : Int) := Int.ofNat_lt.mpr u1
        have w2 : wrap64 (((i + 1 : Nat) : Int) + 1) = ((i + 2 : Nat) : Int) := wrapN (by omega)
        have hr2 : r2.length ≤ n := by simp only [List.length_cons] at hn'; omega
        refine TEv.map (rtext_bs s at_ i acc c d r2 h hs c3 hal) ?_
        rw [q_bs c3]
        by_cases d1 : d.toNat = 110
        · rw [esc_n d1]
          show TEv at_ i acc _ (addB 10 2 (quotedL r2))
          refine TEv.map (fun a ha => Ev.iteT (by omega) ha) (TEv.addB ?_)
          exact rtext_ev s hs at_ n r2 (i + 2) (acc ++ [10]) hr2 u3 b2 (b3 _)
        by_cases d2 : d.toNat = 116
        · rw [esc_t d2]
          show TEv at_ i acc _ (addB 9 2 (quotedL r2))
          refine TEv.map (fun a ha => Ev.iteF (by omega) (Ev.iteT (by omega) ha)) (TEv.addB ?_)
          exact rtext_ev s hs at_ n r2 (i + 2) (acc ++ [9]) hr2 u3 b2 (b3 _)
        by_cases d3 : d.toNat = 34 ∨ d.toNat = 92
        · rw [esc_e d3]
          show TEv at_ i acc _ (addB (d.toNat : Int) 2 (quotedL r2))
          have J : ∀ a, Ev (fun k => rookeryref15_text.l0 k s ((i + 2 : Nat) : Int) 4 noS 0 (acc ++ [(d.toNat : Int)]) at_) a → Ev (fun k => rookeryref15_text.j1 k s ((i + 1 : Nat) : Int) (d.toNat : Int) true 4 noS 0 acc at_) a := by
            intro a ha
            refine Ev.succ ?_
            simp only [rookeryref15_text.j1, u2, w2]
            exact Ev.iteT trivial (Ev.iteT b0 (Ev.iteT b1 (Ev.iteT hal ha)))
          have X : ∀ a, Ev (fun k => rookeryref15_text.l0 k s ((i + 2 : Nat) : Int) 4 noS 0 (acc ++ [(d.toNat : Int)]) at_) a → Ev (fun k => if (d.toNat : Int) = 34 then rookeryref15_text.j1 k s ((i + 1 : Nat) : Int) (d.toNat : Int) ((d.toNat : Int) == 34) 4 noS 0 acc at_ else rookeryref15_text.j1 k s ((i + 1 : Nat) : Int) (d.toNat : Int) ((d.toNat : Int) == 92) 4 noS 0 acc at_) a := by
            intro a ha
            by_cases d4 : d.toNat = 34
            · refine Ev.iteT (by omega) ?_
              rw [show ((d.toNat : Int) == 34) = true by simp; omega]
              exact J a ha
            · refine Ev.iteF (by omega) ?_
              rw [show ((d.toNat : Int) == 92) = true by simp; omega]
              exact J a ha
          refine TEv.map (fun a ha => Ev.iteF (by omega) (Ev.iteF (by omega) (X a ha))) (TEv.addB ?_)
          exact rtext_ev s hs at_ n r2 (i + 2) (acc ++ [(d.toNat : Int)]) hr2 u3 b2 (b3 _)
        have X : ∀ a, Ev (fun k => rookeryref15_text.j1 k s ((i + 1 : Nat) : Int) (d.toNat : Int) false 4 noS 0 acc at_) a → Ev (fun k => if (d.toNat : Int) = 110 then rookeryref15_text.l0 k s ((i + 2 : Nat) : Int) 4 noS 0 (acc ++ [10]) at_ else if (d.toNat : Int) = 116 then rookeryref15_text.l0 k s ((i + 2 : Nat) : Int) 4 noS 0 (acc ++ [9]) at_ else if (d.toNat : Int) = 34 then rookeryref15_text.j1 k s ((i + 1 : Nat) : Int) (d.toNat : Int) ((d.toNat : Int) == 34) 4 noS 0 acc at_ else rookeryref15_text.j1 k s ((i + 1 : Nat) : Int) (d.toNat : Int) ((d.toNat : Int) == 92) 4 noS 0 acc at_) a := by
          intro a ha
          refine Ev.iteF (by omega) (Ev.iteF (by omega) (Ev.iteF (by omega) ?_))
          rw [show ((d.toNat : Int) == 92) = false by simp; omega]
          exact ha
        by_cases d5 : d.toNat = 120
        · obtain ⟨w3, w4⟩ := room3 hi hs
          have hlen : s.size = i + 2 + r2.length := len_drop u3 b2
          have d5' : (d.toNat : Int) = 120 := by rw [d5]; rfl
          have bad : ∃ p, Ev (fun k => rookeryref15_text.j2 k s ((i + 1 : Nat) : Int) true 4 noS 0 acc at_) (0, noS, 0, [], 0, p, 154) := by
            refine ⟨((i + 1 : Nat) : Int), Ev.succ ?_⟩
            simp only [rookeryref15_text.j2]
            exact Ev.iteT trivial (Ev.pure _)
          obtain ⟨p, bad⟩ := bad
          rcases r2 with _ | ⟨a, _ | ⟨b, r3⟩⟩
          · rw [esc_x0 d5]
            refine ⟨p, X _ (Ev.succ ?_)⟩
            simp only [rookeryref15_text.j1, w3]
            have g : ((i + 3 : Nat) : Int) ≥ (s.size : Int) := by
              rw [hlen]
              exact Int.ofNat_le.mpr (Nat.add_le_add_left (show 0 ≤ 1 by decide) (i + 2))
            exact Ev.iteF (by simp) (Ev.iteT d5' (Ev.iteT g bad))
          · rw [esc_x1 d5]
            refine ⟨p, X _ (Ev.succ ?_)⟩
            simp only [rookeryref15_text.j1, w3]
            have g : ((i + 3 : Nat) : Int) ≥ (s.size : Int) := by
              rw [hlen]
              exact Int.ofNat_le.mpr (Nat.add_le_add_left (show 1 ≤ 1 by decide) (i + 2))
            exact Ev.iteF (by simp) (Ev.iteT d5' (Ev.iteT g bad))
          · obtain ⟨v1, v2, v3⟩ := drop_cons u3
            obtain ⟨x1, x2, x3⟩ := drop_cons v3
            simp only [List.length_cons] at hlen
            obtain ⟨g2, g3, g4, g5⟩ := room4 hlen
            have g6 : (acc ++ [hxv a b]).length ≤ i + 4 := by rw [List.length_append]; exact Nat.add_le_add ha (show 1 ≤ 4 by decide)
            have g7 : r3.length ≤ n := Nat.le_trans (Nat.le_add_right _ 2) hr2
            have e2 : ((i + 2 : Nat) : Int) = ((i + 1 + 1 : Nat) : Int) := rfl
            have e3 : ((i + 3 : Nat) : Int) = ((i + 1 + 1 + 1 : Nat) : Int) := rfl
            have Y : ∀ a', Ev (fun k => if hx a < 0 then rookeryref15_text.j2 k s ((i + 1 : Nat) : Int) true 4 noS 0 acc at_ else rookeryref15_text.j2 k s ((i + 1 : Nat) : Int) (decide (hx b < 0)) 4 noS 0 acc at_) a' → Ev (fun k => rookeryref15_text.j1 k s ((i + 1 : Nat) : Int) (d.toNat : Int) false 4 noS 0 acc at_) a' := by
              intro a' ha'
              refine Ev.succ ?_
              simp only [rookeryref15_text.j1, w3, w2, rdigit, Option.bind_some]
              refine Ev.iteF (by simp) (Ev.iteT d5' (Ev.iteF g4 (Ev.iteT (Int.natCast_nonneg _) (Ev.iteT g2 ?_))))
              rw [e2, v2, e3, x2, dgt_hx, dgt_hx]
              by_cases ha : hx a < 0
              · exact Ev.iteT ha (ha'.cast fun k => (if_pos ha).symm)
              · exact Ev.iteF ha (Ev.iteT (Int.natCast_nonneg _) (Ev.iteT g3 (ha'.cast fun k => (if_neg ha).symm)))
            rw [esc_x d5]
            by_cases ha : 0 ≤ hx a
            · by_cases hb' : 0 ≤ hx b
              · rw [if_pos ⟨ha, hb'⟩]
                show TEv at_ i acc _ (addB (hxv a b) 4 (quotedL r3))
                have Z : ∀ a', Ev (fun k => rookeryref15_text.l0 k s ((i + 4 : Nat) : Int) 4 noS 0 (acc ++ [hxv a b]) at_) a' → Ev (fun k => rookeryref15_text.j2 k s ((i + 1 : Nat) : Int) false 4 noS 0 acc at_) a' := by
                  intro a' ha'
                  refine Ev.succ ?_
                  simp only [rookeryref15_text.j2, w2, w3, w4, rdigit, Option.bind_some]
                  refine Ev.iteF (by simp) (Ev.iteT (Int.natCast_nonneg _) (Ev.iteT g2 (Ev.iteT (Int.natCast_nonneg _) (Ev.iteT g3 (Ev.iteT hal ?_)))))
                  rw [e2, v2, e3, x2, dgt_hx, dgt_hx, two_hx ha hb']
                  exact ha'
                refine TEv.map (fun a' ha' => X a' (Y a' (Ev.iteF (Int.not_lt.mpr ha) (by rw [decide_eq_false (Int.not_lt.mpr hb')]; exact Z a' ha')))) (TEv.addB ?_)
                exact rtext_ev s hs at_ n r3 (i + 4) (acc ++ [hxv a b]) g7 x3 g5 g6
              · rw [if_neg (fun x => hb' x.2)]
                refine ⟨p, X _ (Y _ (Ev.iteF (Int.not_lt.mpr ha) ?_))⟩
                rw [decide_eq_true (Int.not_le.mp hb')]
                exact bad
            · rw [if_neg (fun x => ha x.1)]
              exact ⟨p, X _ (Y _ (Ev.iteT (Int.not_le.mp ha) bad))⟩
        · rw [esc_no d1 d2 d3 d5]
          refine ⟨((i + 1 : Nat) : Int), X _ (Ev.succ ?_)⟩
          simp only [rookeryref15_text.j1]
          exact Ev.iteF (by simp) (Ev.iteF (by omega) (Ev.pure _))
    · have i3 : ¬ (c.toNat : Int) = 92 := by omega
      have e : quotedL (c :: r) = addB (c.toNat : Int) 1 (quotedL r) := by
        conv => lhs; unfold quotedL
        rw [if_neg c1, if_neg c2, if_neg c3]
      rw [e]
      have step : ∀ a, Ev (fun k => rookeryref15_text.l0 k s ((i + 1 : Nat) : Int) 4 noS 0 (acc ++ [(c.toNat : Int)]) at_) a → Ev (fun k => rookeryref15_text.l0 k s (i : Int) 4 noS 0 acc at_) a := by
        intro a ha
        refine Ev.succ ?_
        simp only [rookeryref15_text.l0, h2, btw, Option.bind_some, hb, w1]
        exact Ev.iteT (by omega) (Ev.iteT (by omega) (Ev.iteF i2 (Ev.iteT trivial (Ev.iteF i3 (Ev.iteT hal ha)))))
      refine TEv.map step (TEv.addB ?_)
      exact rtext_ev s hs at_ n r (i + 1) (acc ++ [(c.toNat : Int)]) hn' h3 (by omega) (by simp; omega)
theorem rword (s : ByteArray) : rookeryref15_Word.f s = some (lexWord s) := by
  rw [word_law]
  unfold rookeryref15_Word.f
  rw [toList_all]
  generalize s.data.toList = L
  by_cases h1 : L = [99, 97, 115, 101]
  · rw [if_pos h1, h1]; rfl
  by_cases h2 : L = [111, 102]
  · rw [if_neg h1, if_pos h2, h2]; rfl
  by_cases h3 : L = [101, 110, 100]
  · rw [if_neg h1, if_neg h2, if_pos h3, h3]; rfl
  by_cases h4 : L = [114, 101, 99, 101, 105, 118, 101]
  · rw [if_neg h1, if_neg h2, if_neg h3, if_pos h4, h4]; rfl
  by_cases h5 : L = [97, 102, 116, 101, 114]
  · rw [if_neg h1, if_neg h2, if_neg h3, if_neg h4, if_pos h5, h5]; rfl
  rw [if_neg h1, if_neg h2, if_neg h3, if_neg h4, if_neg h5]
  by_cases h6 : L = [114, 101, 109]
  · rw [h6]; rfl
  · simp [wordL, h1, h2, h3, h4, h5, h6]
/-! ### names -/
theorem rtok_run (s : ByteArray) (hs : s.size ≤ 16384) (x1 x7 : Int) (a) : ∀ (l : List UInt8) (i : Nat), s.data.toList.drop i = l →
    Ev (fun k => rookeryref15_token.j1 k s x1 x7 ((i + runL namB l : Nat) : Int)) a → Ev (fun k => rookeryref15_token.l0 k s x1 x7 (i : Int)) a
  | [], i, h, H => by
    have hz := drop_nil h
    refine Ev.succ ?_
    simp only [rookeryref15_token.l0]
    exact Ev.iteF (by omega) H
  | c :: r, i, h, H => by
    obtain ⟨h1, h2, h3⟩ := drop_cons h
    have w1 : wrap64 ((i : Int) + 1) = ((i + 1 : Nat) : Int) := wrapN (by omega)
    refine Ev.succ ?_
    simp only [rookeryref15_token.l0, h2, rname, Option.bind_some, w1]
    refine Ev.iteT (by omega) (Ev.iteT (by omega) ?_)
    by_cases hc : namB (c.toNat : Int) = true
    · refine Ev.iteT hc (rtok_run s hs x1 x7 a r (i + 1) h3 ?_)
      rw [show i + 1 + runL namB r = i + runL namB (c :: r) by rw [runL_cons, if_pos hc]; omega]
      exact H
    · refine Ev.iteF hc ?_
      rw [runL_cons, if_neg hc] at H
      exact H
theorem rtok_name (s : ByteArray) (hs : s.size ≤ 16384) (l : List UInt8) (i : Nat) (h : s.data.toList.drop i = l) (hi : i ≤ s.size) (x7 : Int) (hx : x7 = hereL l) (hm : smaB x7 = true ∨ greB x7 = true) :
    Ev (fun k => rookeryref15_token.j1 k s (i : Int) x7 ((i + runL namB l : Nat) : Int))
      (if 32 < runL namB l then (0, noS, 0, [], 0, ((i + runL namB l : Nat) : Int), 153)
       else if smaB x7 = true then (if lexWord (arr (l.take (runL namB l))) = true then 6 else 2, arr (l.take (runL namB l)), 0, [], (i : Int), ((i + runL namB l : Nat) : Int), 0)
       else (3, arr (l.take (runL namB l)), 0, [], (i : Int), ((i + runL namB l : Nat) : Int), 0)) := by
  have hle := runL_le namB l
  have hlen := len_drop h hi
  have he : s.extract ((i : Int)).toNat (((i + runL namB l : Nat) : Int)).toNat = arr (l.take (runL namB l)) := ext_eq h
  have w : wrap64 (((i + runL namB l : Nat) : Int) - (i : Int)) = ((runL namB l : Nat) : Int) := by
    rw [wrap_id (by omega) (by omega)]
    omega
  refine Ev.succ ?_
  simp only [rookeryref15_token.j1, w, btw, rword, he, Option.bind_some]
  refine Ev.iteT (by omega) (Ev.iteT (by omega) (Ev.iteT (by omega) ?_))
  generalize runL namB l = n at *
  by_cases hl : 32 < n
  · rw [if_pos hl]
    exact Ev.iteT (by omega) (Ev.pure _)
  rw [if_neg hl]
  refine Ev.iteF (by omega) ?_
  by_cases hsm : smaB x7 = true
  · rw [if_pos hsm]
    refine Ev.iteT hsm ?_
    by_cases hw : lexWord (arr (l.take n)) = true
    · have e6 : (if lexWord (arr (l.take n)) = true then (6 : Int) else 2) = 6 := if_pos hw
      rw [e6]
      exact Ev.iteT hw (Ev.pure _)
    · have e6 : (if lexWord (arr (l.take n)) = true then (6 : Int) else 2) = 2 := if_neg hw
      rw [e6]
      exact Ev.iteF hw (Ev.pure _)
  · rw [if_neg hsm]
    exact Ev.iteF hsm (Ev.pure _)
/-! ### signs -/
def oneL : List UInt8 := [61, 60, 62, 43, 45, 42, 47, 33, 40, 41, 123, 125, 91, 93, 44, 59, 46]
def twoL : List (List UInt8) := [[45, 62], [61, 61], [47, 61], [61, 60], [62, 61]]
theorem signs_two : signsL = (twoL.map fun q => (⟨q.toArray⟩ : ByteArray)) ++ oneL.map fun c => ⟨#[c]⟩ := rfl
theorem sign_one (c : UInt8) (r : List UInt8) : ∀ L : List UInt8, (L.map fun c => (⟨#[c]⟩ : ByteArray)).find? (fun p => Lib.hasPrefix (c :: r) p.data.toList) = (L.find? (· == c)).map fun c => ⟨#[c]⟩
  | [] => rfl
  | x :: L => by
    have IH := sign_one c r L
    rw [List.map_cons, List.find?_cons, List.find?_cons, IH]
    have e : Lib.hasPrefix (c :: r) (⟨#[x]⟩ : ByteArray).data.toList = (x == c) := by
      show (x == c && ([] : List UInt8).isPrefixOf r) = (x == c)
      simp [List.isPrefixOf]
    rw [e]
    cases x == c <;> rfl
theorem signAt_two (c : UInt8) (r : List UInt8) : signAt (arr (c :: r)) = (((twoL.map fun q => (⟨q.toArray⟩ : ByteArray)).find? fun p => Lib.hasPrefix (c :: r) p.data.toList).or ((oneL.find? (· == c)).map fun c => ⟨#[c]⟩)) := by
  have h2 : (arr (c :: r)).data.toList = c :: r := by simp [arr]
  unfold signAt
  rw [h2, signs_two, List.find?_append, sign_one]
theorem rtok_one (s : ByteArray) (x1 : Int) (c : UInt8) (h1 : 0 ≤ x1) (h2 : x1 ≤ 16384) : ∀ (L : List UInt8) (n : Nat), oneL.drop n = L →
    Ev (fun k => rookeryref15_token.l1 k x1 (c.toNat : Int) (n : Int)) (match L.find? (· == c) with | some d => (5, ⟨#[d]⟩, 0, [], x1, x1 + 1, 0) | none => (0, noS, 0, [], 0, x1, 151))
  | [], n, h => by
    have hz : 17 ≤ n := by
      have := List.drop_eq_nil_iff.mp h
      exact this
    refine Ev.succ ?_
    simp only [rookeryref15_token.l1]
    exact Ev.iteF (by omega) (Ev.pure _)
  | d :: L, n, h => by
    have hn : n < 17 := by
      rcases Nat.lt_or_ge n 17 with h1 | h1
      · exact h1
      · rw [List.drop_eq_nil_of_le (show oneL.length ≤ n from h1)] at h
        cases h
    have hb : ∀ n : Nat, n < 17 → bt (⟨#[61, 60, 62, 43, 45, 42, 47, 33, 40, 41, 123, 125, 91, 93, 44, 59, 46]⟩ : ByteArray) (n : Int) = ((oneL.getD n 0).toNat : Int) ∧ ((⟨#[61, 60, 62, 43, 45, 42, 47, 33, 40, 41, 123, 125, 91, 93, 44, 59, 46]⟩ : ByteArray).extract n (n + 1)).data.toList = [oneL.getD n 0] := by decide
    have hl : n < oneL.length := hn
    have h3 := List.drop_eq_getElem_cons hl
    rw [h] at h3
    obtain ⟨e1, e2⟩ := List.cons.inj h3
    have hd : oneL.getD n 0 = d := by rw [e1, List.getD_eq_getElem?_getD, List.getElem?_eq_getElem hl]; rfl
    obtain ⟨B1, B2⟩ := hb n hn
    rw [hd] at B1 B2
    have w1 : wrap64 ((n : Int) + 1) = ((n + 1 : Nat) : Int) := wrapN (by omega)
    have w2 : wrap64 (x1 + 1) = x1 + 1 := wrap_id (by omega) (by omega)
    have IH := rtok_one s x1 c h1 h2 L (n + 1) e2.symm
    have B3 : (⟨#[61, 60, 62, 43, 45, 42, 47, 33, 40, 41, 123, 125, 91, 93, 44, 59, 46]⟩ : ByteArray).extract ((n : Int)).toNat (((n + 1 : Nat) : Int)).toNat = (⟨#[d]⟩ : ByteArray) := by
      apply ByteArray.ext
      apply Array.ext'
      exact B2
    refine Ev.succ ?_
    simp only [rookeryref15_token.l1, B1, w1, w2, B3]
    refine Ev.iteT (by omega) (Ev.iteT (by omega) ?_)
    rw [List.find?_cons]
    by_cases hc : d = c
    · have hc2 : (d == c) = true := by simp [hc]
      rw [hc2]
      exact Ev.iteT (by rw [hc]) (Ev.iteT (by omega) (Ev.iteT (by omega) (Ev.pure _)))
    · have hc2 : (d == c) = false := by simpa using hc
      rw [hc2]
      refine Ev.iteF (fun e => hc (UInt8.toNat_inj.mp (by omega))) IH
theorem two_list : ∀ p ∈ twoL, p.length = 2 := by decide
/-- the two bytes that stand there, or none: is it one of the long signs? -/
theorem rtok_two (s : ByteArray) (x1 x7 : Int) (t : ByteArray) (a) (H1 : t.data.toList ∈ twoL → a = (5, t, 0, [], x1, wrap64 (x1 + 2), 0)) (H2 : t.data.toList ∉ twoL → Ev (fun k => rookeryref15_token.l1 k x1 x7 0) a) :
    Ev (fun k => rookeryref15_token.j2 k x1 x7 t) a := by
  have J : ∀ b, (b = true ↔ t.data.toList ∈ twoL) → Ev (fun k => rookeryref15_token.j3 k x1 x7 t b) a := by
    intro b hb
    refine Ev.succ ?_
    simp only [rookeryref15_token.j3]
    by_cases h : t.data.toList ∈ twoL
    · refine Ev.iteT (hb.mpr h) ?_
      rw [H1 h]
      exact Ev.pure _
    · exact Ev.iteF (fun e => h (hb.mp e)) (H2 h)
  refine Ev.succ ?_
  simp only [rookeryref15_token.j2, toList_all]
  generalize t.data.toList = L at J ⊢
  by_cases h1 : L = [45, 62]
  · exact Ev.iteT h1 (J true ⟨fun _ => by rw [h1]; decide, fun _ => rfl⟩)
  refine Ev.iteF h1 ?_
  by_cases h2 : L = [61, 61]
  · exact Ev.iteT h2 (J true ⟨fun _ => by rw [h2]; decide, fun _ => rfl⟩)
  refine Ev.iteF h2 ?_
  by_cases h3 : L = [47, 61]
  · exact Ev.iteT h3 (J true ⟨fun _ => by rw [h3]; decide, fun _ => rfl⟩)
  refine Ev.iteF h3 ?_
  by_cases h4 : L = [61, 60]
  · exact Ev.iteT h4 (J true ⟨fun _ => by rw [h4]; decide, fun _ => rfl⟩)
  refine Ev.iteF h4 (J _ ?_)
  simp [twoL, h1, h2, h3, h4]
theorem two_find (c d : UInt8) (r : List UInt8) : ∀ L : List (List UInt8), (∀ p ∈ L, p.length = 2) →
    (L.map fun q => (⟨q.toArray⟩ : ByteArray)).find? (fun p => Lib.hasPrefix (c :: d :: r) p.data.toList) = if [c, d] ∈ L then some ⟨#[c, d]⟩ else none
  | [], _ => rfl
  | p :: L, h => by
    have IH := two_find c d r L (fun q hq => h q (List.mem_cons_of_mem _ hq))
    have hp := h p (by simp)
    have e : Lib.hasPrefix (c :: d :: r) (⟨p.toArray⟩ : ByteArray).data.toList = true ↔ [c, d] = p := by
      show p.isPrefixOf (c :: d :: r) = true ↔ [c, d] = p
      constructor
      · intro e
        have e2 : p <+: c :: d :: r := List.isPrefixOf_iff_prefix.mp e
        have e3 := List.prefix_iff_eq_take.mp e2
        rw [hp] at e3
        exact e3.symm
      · intro e
        rw [← e]
        simp [List.isPrefixOf]
    rw [List.map_cons, List.find?_cons, IH]
    by_cases hq : [c, d] = p
    · subst hq
      rw [e.mpr rfl, if_pos List.mem_cons_self]
    · have e4 : Lib.hasPrefix (c :: d :: r) (⟨p.toArray⟩ : ByteArray).data.toList = false := Bool.eq_false_iff.mpr (fun x => hq (e.mp x))
      rw [e4]
      have e5 : [c, d] ∈ p :: L ↔ [c, d] ∈ L := by
        rw [List.mem_cons]
        exact ⟨fun x => x.resolve_left hq, .inr⟩
      by_cases h6 : [c, d] ∈ L
      · rw [if_pos h6, if_pos (e5.mpr h6)]
      · rw [if_neg h6, if_neg (fun x => h6 (e5.mp x))]
/-! ### one token -/
theorem rtoken_F (s : ByteArray) (hs : s.size ≤ 16384) (c : UInt8) (r : List UInt8) (i : Nat) (h' : s.data.toList.drop i = c :: r) (a)
    (ha : Ev (fun k => if digB (c.toNat : Int) = true then ((rookeryref15_number.f k s (i : Int)).bind fun bt195 => (some (bt195.1, bt195.2.1, bt195.2.2.1, bt195.2.2.2.1, bt195.2.2.2.2.1, bt195.2.2.2.2.2.1, bt195.2.2.2.2.2.2))) else (if (c.toNat : Int) = 34 then ((rookeryref15_text.f k s (i : Int)).bind fun bt204 => (some (bt204.1, bt204.2.1, bt204.2.2.1, bt204.2.2.2.1, bt204.2.2.2.2.1, bt204.2.2.2.2.2.1, bt204.2.2.2.2.2.2))) else (if namB (c.toNat : Int) = true then (rookeryref15_token.l0 k s (i : Int) (c.toNat : Int) (i : Int)) else (if ((i + 1 : Nat) : Int) < (s.size : Int) then (if (i : Int) ≤ ((i + 2 : Nat) : Int) then (if ((i + 2 : Nat) : Int) ≤ (s.size : Int) then (rookeryref15_token.j2 k (i : Int) (c.toNat : Int) (s.extract ((i : Nat) : Int).toNat ((i + 2 : Nat) : Int).toNat)) else none) else none) else (rookeryref15_token.j2 k (i : Int) (c.toNat : Int) noS))))) a) :
    Ev (fun k => rookeryref15_token.f k s (i : Int)) a := by
  obtain ⟨h1, h2, h3⟩ := drop_cons h'
  have w1 : wrap64 ((i : Int) + 1) = ((i + 1 : Nat) : Int) := wrapN (by omega)
  have w2 : wrap64 ((i : Int) + 2) = ((i + 2 : Nat) : Int) := by
    rw [wrap_id (by omega) (by omega)]
    rfl
  refine ha.cast fun k => ?_
  simp only [rookeryref15_token.f, h2, btw_dig, rname, Option.bind_some, w1, w2]
  rw [if_pos (by omega), if_pos (by omega)]
  rfl
def sgT : Option ByteArray → Int × ByteArray × Int × List Int × Int × Nat
  | some p => (5, p, 0, [], 0, p.size)
  | none => (0, noS, 0, [], 151, 0)
def sgO : Option UInt8 → Option ByteArray
  | some d => some ⟨#[d]⟩
  | none => none
theorem tok_sgT {c : UInt8} {r : List UInt8} (hd : ¬ digB (c.toNat : Int) = true) (hq : ¬ (c.toNat : Int) = 34) (hn : ¬ namB (c.toNat : Int) = true) : tokL (c :: r) = sgT (signAt (arr (c :: r))) := by
  have hh : hereL (c :: r) = (c.toNat : Int) := rfl
  have hg : ¬ greB (c.toNat : Int) = true := fun e => hn (by simp [namB, e])
  have hsm : ¬ smaB (c.toNat : Int) = true := fun e => hn (by simp [namB, e])
  unfold tokL
  rw [hh, if_neg hd, if_neg hq, if_neg hg, if_neg hsm]
  cases signAt (arr (c :: r)) <;> rfl
theorem rtoken_sign (s : ByteArray) (hs : s.size ≤ 16384) (c : UInt8) (r : List UInt8) (i : Nat) (h' : s.data.toList.drop i = c :: r) (hi : i < s.size) (hd : ¬ digB (c.toNat : Int) = true) (hq : ¬ (c.toNat : Int) = 34) (hn : ¬ namB (c.toNat : Int) = true) :
    match signAt (arr (c :: r)) with
    | some p => Ev (fun k => rookeryref15_token.f k s (i : Int)) (5, p, 0, [], (i : Int), ((i + p.size : Nat) : Int), 0)
    | none => Ev (fun k => rookeryref15_token.f k s (i : Int)) (0, noS, 0, [], 0, (i : Int), 151) := by
  have F := rtoken_F s hs c r i h'
  have hlen := len_drop h' (Nat.le_of_lt hi)
  have O := rtok_one s (i : Int) c (by omega) (by omega) oneL 0 rfl
  have w2 : wrap64 ((i : Int) + 2) = ((i + 2 : Nat) : Int) := by
    rw [wrap_id (by omega) (by omega)]
    rfl
  rw [signAt_two]
  have fin : (∀ a, Ev (fun k => rookeryref15_token.l1 k (i : Int) (c.toNat : Int) 0) a → Ev (fun k => rookeryref15_token.f k s (i : Int)) a) →
      match (Option.map (fun c => (⟨#[c]⟩ : ByteArray)) (oneL.find? (· == c))) with
      | some p => Ev (fun k => rookeryref15_token.f k s (i : Int)) (5, p, 0, [], (i : Int), ((i + p.size : Nat) : Int), 0)
      | none => Ev (fun k => rookeryref15_token.f k s (i : Int)) (0, noS, 0, [], 0, (i : Int), 151) := by
    intro G
    have O := G _ O
    cases hf : oneL.find? (· == c) with
    | some d =>
      rw [hf] at O
      exact O
    | none =>
      rw [hf] at O
      exact O
  cases r with
  | nil =>
    have e0 : ((twoL.map fun q => (⟨q.toArray⟩ : ByteArray)).find? fun p => Lib.hasPrefix [c] p.data.toList) = none := by
      simp [twoL, List.find?, Lib.hasPrefix, List.isPrefixOf]
    rw [e0, Option.none_or]
    simp only [List.length_cons, List.length_nil] at hlen
    refine fin fun a O => F a (Ev.iteF hd (Ev.iteF hq (Ev.iteF hn (Ev.iteF (by omega) (rtok_two s _ _ _ _ (fun hm => ?_) (fun _ => O))))))
    exact absurd hm (by decide)
  | cons d r2 =>
    have ex : s.extract ((i : Nat) : Int).toNat ((i + 2 : Nat) : Int).toNat = ⟨#[c, d]⟩ := by
      have := ext_eq (n := 2) h'
      exact this
    simp only [List.length_cons] at hlen
    rw [ex] at F
    rw [two_find c d r2 twoL two_list]
    by_cases hm : [c, d] ∈ twoL
    · rw [if_pos hm, Option.some_or]
      show Ev _ _
      refine F _ (Ev.iteF hd (Ev.iteF hq (Ev.iteF hn (Ev.iteT (by omega) (Ev.iteT (by omega) (Ev.iteT (by omega) (rtok_two s _ _ _ _ (fun _ => ?_) (fun e => absurd hm e))))))))
      rw [w2]
      rfl
    · rw [if_neg hm, Option.none_or]
      exact fin fun a O => F a (Ev.iteF hd (Ev.iteF hq (Ev.iteF hn (Ev.iteT (by omega) (Ev.iteT (by omega) (Ev.iteT (by omega) (rtok_two s _ _ _ _ (fun e => absurd e hm) (fun _ => O))))))))
theorem rtoken_ev (s : ByteArray) (hs : s.size ≤ 16384) (l : List UInt8) (i : Nat) (h : s.data.toList.drop i = l) (hi : i < s.size) :
    (tokE l = 0 → Ev (fun k => rookeryref15_token.f k s (i : Int)) ((tokL l).1, (tokL l).2.1, (tokL l).2.2.1, (tokL l).2.2.2.1, (i : Int), ((i + tokN l : Nat) : Int), 0)) ∧
    (tokE l ≠ 0 → ∃ y1 y2 y3 y4 y5 y6, Ev (fun k => rookeryref15_token.f k s (i : Int)) (y1, y2, y3, y4, y5, y6, tokE l)) := by
  cases hl : l with
  | nil =>
    rw [hl] at h
    have := drop_nil h
    omega
  | cons c r =>
  have h' := h
  rw [hl] at h'
  obtain ⟨h1, h2, h3⟩ := drop_cons h'
  have hlen := len_drop h' (Nat.le_of_lt hi)
  have hh : hereL (c :: r) = (c.toNat : Int) := rfl
  have w1 : wrap64 ((i : Int) + 1) = ((i + 1 : Nat) : Int) := wrapN (by omega)
  have F := rtoken_F s hs c r i h'
  have SG := rtoken_sign s hs c r i h' hi
  by_cases hsg : ¬ digB (c.toNat : Int) = true ∧ ¬ (c.toNat : Int) = 34 ∧ ¬ namB (c.toNat : Int) = true
  · have SG := SG hsg.1 hsg.2.1 hsg.2.2
    unfold tokE tokN
    rw [tok_sgT hsg.1 hsg.2.1 hsg.2.2]
    cases hS : signAt (arr (c :: r)) with
    | some p =>
      rw [hS] at SG
      exact ⟨fun _ => SG, fun e => absurd rfl e⟩
    | none =>
      rw [hS] at SG
      exact ⟨fun e => (by cases e), fun _ => ⟨_, _, _, _, _, _, SG⟩⟩
  unfold tokE tokN tokL
  rw [hh]
  by_cases hd : digB (c.toNat : Int) = true
  · rw [if_pos hd]
    dsimp only
    have N := num_ok s hs (i : Int) (c :: r) i 0 h' (by omega)
    have N : Ev (fun k => rookeryref15_number.f k s (i : Int)) _ := N
    have T := tokInt_val (l := c :: r) hd
    have hname : namB (hereL ((c :: r).drop (runL digB (c :: r)))) = true ↔ (smaB (hereL ((c :: r).drop (runL digB (c :: r)))) = true ∨ greB (hereL ((c :: r).drop (runL digB (c :: r)))) = true) := by
      have hno : digB (hereL ((c :: r).drop (runL digB (c :: r)))) = false := by
        have G : ∀ l : List UInt8, digB (hereL (l.drop (runL digB l))) = false := by
          intro l
          induction l with
          | nil => rfl
          | cons x q ih =>
            by_cases hx : digB (x.toNat : Int) = true
            · rw [runL_cons, if_pos hx, List.drop_succ_cons]
              exact ih
            · rw [runL_cons, if_neg hx, List.drop_zero]
              exact Bool.eq_false_iff.mpr hx
        exact G _
      unfold namB
      rw [hno]
      simp
    by_cases hv : 4611686018427387903 < valN 0 ((c :: r).take (runL digB (c :: r))) ∨ namB (hereL ((c :: r).drop (runL digB (c :: r)))) = true
    · rw [if_pos hv] at N
      rw [if_pos (by rw [hname] at hv; exact hv)] at T
      rw [T]
      refine ⟨fun e => (by cases e), fun _ => ⟨_, _, _, _, _, _, F _ (Ev.iteT hd (Ev.bind N (Ev.pure _)))⟩⟩
    · rw [if_neg hv] at N
      rw [if_neg (by rw [hname] at hv; exact hv)] at T
      rw [T]
      exact ⟨fun _ => F _ (Ev.iteT hd (Ev.bind N (Ev.pure _))), fun e => absurd rfl e⟩
  rw [if_neg hd]
  by_cases hq : (c.toNat : Int) = 34
  · rw [if_pos hq]
    have Q := rtext_ev s hs (i : Int) r.length r (i + 1) [] (Nat.le_refl _) h3 (by omega) (by simp)
    have QQ : ∀ a, Ev (fun k => rookeryref15_text.l0 k s ((i + 1 : Nat) : Int) 4 noS 0 [] (i : Int)) a → Ev (fun k => rookeryref15_text.f k s (i : Int)) a := by
      intro a ha
      exact ha.cast fun k => by unfold rookeryref15_text.f; rw [w1]; rfl
    have e1 : (c :: r).drop 1 = r := rfl
    rw [e1]
    cases hL : quotedL r with
    | none =>
      rw [hL] at Q
      obtain ⟨p, Q⟩ := Q
      exact ⟨fun e => (by cases e), fun _ => ⟨_, _, _, _, _, _, F _ (Ev.iteF hd (Ev.iteT hq (Ev.bind (QQ _ Q) (Ev.pure _))))⟩⟩
    | some p =>
      obtain ⟨b, n⟩ := p
      rw [hL] at Q
      have Q : Ev _ _ := Q
      refine ⟨fun _ => ?_, fun e => absurd rfl e⟩
      have := F _ (Ev.iteF hd (Ev.iteT hq (Ev.bind (QQ _ Q) (Ev.pure _))))
      rw [List.nil_append, show i + 1 + n = i + (1 + n) by omega] at this
      exact this
  rw [if_neg hq]
  by_cases hn : namB (c.toNat : Int) = true
  · have hm : smaB (c.toNat : Int) = true ∨ greB (c.toNat : Int) = true := by
      unfold namB at hn
      rw [Bool.eq_false_iff.mpr hd] at hn
      simpa using hn
    have N := rtok_run s hs (i : Int) (c.toNat : Int) _ (c :: r) i h' (rtok_name s hs (c :: r) i h' (Nat.le_of_lt hi) (c.toNat : Int) rfl hm)
    have N := F _ (Ev.iteF hd (Ev.iteF hq (Ev.iteT hn N)))
    generalize hrun : runL namB (c :: r) = n at N ⊢
    by_cases hg : greB (c.toNat : Int) = true
    · have hsm : ¬ smaB (c.toNat : Int) = true := by
        simp only [greB, smaB, Bool.or_eq_true, Bool.and_eq_true, decide_eq_true_eq, beq_iff_eq] at hg ⊢
        omega
      rw [if_pos hg]
      by_cases hl : 32 < n
      · rw [if_pos hl] at N ⊢
        exact ⟨fun e => (by cases e), fun _ => ⟨_, _, _, _, _, _, N⟩⟩
      · rw [if_neg hl, if_neg hsm] at N
        rw [if_neg hl]
        exact ⟨fun _ => N, fun e => absurd rfl e⟩
    · have hsm : smaB (c.toNat : Int) = true := hm.resolve_right hg
      rw [if_neg hg, if_pos hsm]
      by_cases hl : 32 < n
      · rw [if_pos hl] at N ⊢
        exact ⟨fun e => (by cases e), fun _ => ⟨_, _, _, _, _, _, N⟩⟩
      · rw [if_neg hl, if_pos hsm] at N
        rw [if_neg hl]
        exact ⟨fun _ => N, fun e => absurd rfl e⟩
  exact absurd ⟨hd, hq, hn⟩ hsg
theorem rscan_ev (s : ByteArray) (hs : s.size ≤ 16384) : ∀ (m : Nat) (l : List UInt8) (i : Nat) (acc : List S33), l.length < m → s.data.toList.drop i = l → i ≤ s.size → acc.length ≤ 4000 →
    Ev (fun k => rookeryref15_Scan.l0 k s acc ((i + gapL false l : Nat) : Int)) (if (scanL m acc.length i l).2.2 = 0 then (acc ++ (scanL m acc.length i l).1, 0, 0) else ([], (scanL m acc.length i l).2)) := by
  intro m
  induction m with
  | zero => intro l i acc hm; omega
  | succ m ih =>
    intro l i acc hm h hi ha
    have hlen := len_drop h hi
    have hgl := gapL_le l false
    have hr : s.data.toList.drop (i + gapL false l) = l.drop (gapL false l) := by rw [← h, List.drop_drop]
    have hrl : (l.drop (gapL false l)).length = l.length - gapL false l := List.length_drop
    generalize hj : i + gapL false l = j at hr
    generalize hrr : l.drop (gapL false l) = r at hr hrl
    unfold scanL
    simp only [hj, hrr]
    by_cases hz : r = []
    · rw [if_pos hz]
      subst hz
      simp only [if_true, List.append_nil]
      simp at hrl
      refine Ev.succ ?_
      simp only [rookeryref15_Scan.l0]
      exact Ev.iteF (by omega) (Ev.pure _)
    rw [if_neg hz]
    have hpos : 1 ≤ r.length := by
      cases r with
      | nil => exact absurd rfl hz
      | cons c q => simp
    have step : ∀ a, Ev (fun k => if (acc.length : Int) = 4000 then (some (([] : List (S33)), (j : Int), 155)) else ((rookeryref15_token.f k s (j : Int)).bind fun bt219 => (if bt219.2.2.2.2.2.2 = 0 then (if acc.length < 2199023255552 then ((rookeryref15_gap.f k s bt219.2.2.2.2.2.1).bind fun t232 => (rookeryref15_Scan.l0 k s (acc ++ [(⟨bt219.1, bt219.2.1, bt219.2.2.1, bt219.2.2.2.1, bt219.2.2.2.2.1⟩ : S33)]) t232)) else (none)) else (some (([] : List (S33)), (j : Int), bt219.2.2.2.2.2.2))))) a → Ev (fun k => rookeryref15_Scan.l0 k s acc (j : Int)) a := by
      intro a ha
      refine Ev.succ ?_
      simp only [rookeryref15_Scan.l0]
      exact Ev.iteT (by omega) ha
    apply step
    by_cases hc : acc.length = 4000
    · rw [if_pos hc]
      exact Ev.iteT (by omega) (Ev.pure _)
    rw [if_neg hc]
    refine Ev.iteF (by omega) ?_
    have T := rtoken_ev s hs r j hr (by omega)
    by_cases he : tokE r = 0
    · rw [if_pos he]
      have hn := tokN_ok hz he
      have hd : s.data.toList.drop (j + tokN r) = r.drop (tokN r) := by rw [← hr, List.drop_drop]
      have hj2 : j + tokN r ≤ s.size := by omega
      have G := rgap s hs (r.drop (tokN r)) (j + tokN r) hd hj2
      refine Ev.bind (T.1 he) (Ev.iteT rfl (Ev.iteT (by omega) (Ev.bind G ?_)))
      have IH := ih (r.drop (tokN r)) (j + tokN r) (acc ++ [tokS j r]) (by rw [List.length_drop]; omega) hd hj2 (by simp; omega)
      simp only [List.length_append, List.length_singleton] at IH
      by_cases hx : (scanL m (acc.length + 1) (j + tokN r) (r.drop (tokN r))).2.2 = 0
      · rw [if_pos hx] at IH
        rw [if_pos hx]
        rw [if_pos hx]
        rw [List.append_assoc] at IH
        exact IH
      · rw [if_neg hx] at IH
        rw [if_neg hx]
        rw [if_neg hx]
        exact IH
    · rw [if_neg he]
      obtain ⟨y1, y2, y3, y4, y5, y6, T2⟩ := T.2 he
      rw [if_neg he]
      exact Ev.bind T2 (Ev.iteF he (Ev.pure _))
theorem rscan_all (s : ByteArray) : Ev (fun k => rookeryref15_Scan.f k s) (scanA s) := by
  unfold scanA
  by_cases h : 16384 < s.size
  · rw [if_pos h]
    refine (Ev.pure _).cast fun k => ?_
    unfold rookeryref15_Scan.f
    rw [if_pos (by omega)]
  · rw [if_neg h]
    have hg := rgap s (by omega) s.data.toList 0 (by simp) (by omega)
    have := rscan_ev s (by omega) (s.size + 1) s.data.toList 0 [] (Nat.lt_succ_self _) (by simp) (by omega) (by simp)
    simp only [List.length_nil, List.nil_append] at this
    refine (Ev.bind hg this).cast fun k => ?_
    unfold rookeryref15_Scan.f
    rw [if_neg (by omega)]
    rfl
theorem rd_at (L : List S33) (n : Nat) (t : S33) (r : List S33) (h : L.drop n = t :: r) : rd_T33 L (n : Int) = t ∧ n < L.length ∧ L.drop (n + 1) = r := by
  have hl : n < L.length := by
    rcases Nat.lt_or_ge n L.length with h1 | h1
    · exact h1
    · rw [List.drop_eq_nil_of_le h1] at h; cases h
  have h2 := List.drop_eq_getElem_cons hl
  rw [h] at h2
  obtain ⟨e1, e2⟩ := List.cons.inj h2
  refine ⟨?_, hl, e2.symm⟩
  unfold rd_T33
  rw [show (n : Int).toNat = n from rfl, List.getD_eq_getElem?_getD, List.getElem?_eq_getElem hl, e1]
  rfl
theorem same_self {a b : S33} (h : SameS a b) : rookeryref15_Same.f a.f0 a.f1 a.f2 a.f3 a.f4 b.f0 b.f1 b.f2 b.f3 b.f4 = some true := by
  obtain ⟨h1, h2, h3, h4⟩ := h
  unfold rookeryref15_Same.f
  rw [h1, h2, h3, h4, if_pos rfl, if_pos rfl, if_pos rfl]
  simp
theorem SameS.refl (a : S33) : SameS a a := ⟨rfl, rfl, rfl, rfl⟩
theorem all_self (L : List S33) (hL : L.length ≤ 100000) : ∀ (r : List S33) (n : Nat), L.drop n = r → Ev (fun k => rookeryref15_All.l0 k L L (n : Int)) true
  | [], n, h => by
    have := List.drop_eq_nil_iff.mp h
    refine Ev.succ ?_
    simp only [rookeryref15_All.l0]
    exact Ev.iteF (by omega) (Ev.pure _)
  | t :: r, n, h => by
    obtain ⟨h1, h2, h3⟩ := rd_at L n t r h
    have w1 : wrap64 ((n : Int) + 1) = ((n + 1 : Nat) : Int) := wrapN (by omega)
    refine Ev.succ ?_
    simp only [rookeryref15_All.l0, h1, same_self (SameS.refl t), Option.bind_some, w1]
    exact Ev.iteT (by omega) (Ev.iteT (by omega) (Ev.iteT (by omega) (Ev.iteT trivial (Ev.iteT trivial (all_self L hL r (n + 1) h3)))))
theorem scanL_len : ∀ (m c i : Nat) (l : List UInt8), (scanL m c i l).1.length ≤ m
  | 0, c, i, l => Nat.le_refl _
  | m + 1, c, i, l => by
    unfold scanL
    dsimp only
    generalize l.drop (gapL false l) = r
    have IH := scanL_len m (c + 1) (i + gapL false l + tokN r) (r.drop (tokN r))
    repeat' split
    all_goals simp
    all_goals omega
theorem scanA_len (s : ByteArray) : (scanA s).1.length ≤ 16385 := by
  unfold scanA
  have := scanL_len (s.size + 1) 0 0 s.data.toList
  split
  · simp
  · split
    · dsimp only
      omega
    · simp
theorem all_refl (s : ByteArray) : Ev (fun k => rookeryref15_All.f k (scanA s).1 (scanA s).1) true := by
  refine (all_self (scanA s).1 (by have := scanA_len s; omega) (scanA s).1 0 rfl).cast fun k => ?_
  unfold rookeryref15_All.f
  rw [if_pos rfl]
  rfl
end Go.Proofs.YtgkbmdlelcbmhaaDoor
