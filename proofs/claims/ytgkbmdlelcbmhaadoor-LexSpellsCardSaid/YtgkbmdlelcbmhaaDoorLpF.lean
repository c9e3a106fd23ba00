/- lex, the plain law: what the document's own Spell answers. -/
import Derived.Test.YtgkbmdlelcbmhaaDoorLpG
import Derived.Test.YtgkbmdlelcbmhaaDoorPLexx3
namespace Go.Proofs.YtgkbmdlelcbmhaaDoor
open Go.RowKit Go.Proofs.YtgkbmdlelcbmhaaDoor.PLex Go.Proofs.YtgkbmdlelcbmhaaDoorW.PrintWords
set_option linter.all false

theorem dec_len (u : Nat) : (Lib.decDigits u).length ≤ u + 1 := by
  induction u using Nat.strongRecOn with
  | _ u ih =>
    unfold Lib.decDigits
    by_cases h : u < 10
    · rw [dif_pos h]
      simp
    · rw [dif_neg h]
      have := ih (u / 10) (by omega)
      simp only [List.length_append, List.length_cons, List.length_nil]
      omega
theorem digit_one (u : Nat) (hu : u < 9223372036854775808) : [(wrap64 (48 + Int.tmod (u : Int) 10)) % 256] = numsU [UInt8.ofNat (48 + u % 10)] ∧ wrap64 (Int.tdiv (u : Int) 10) = ((u / 10 : Nat) : Int) := by
  have e1 : Int.tmod (u : Int) 10 = ((u % 10 : Nat) : Int) := rfl
  have e2 : Int.tdiv (u : Int) 10 = ((u / 10 : Nat) : Int) := rfl
  rw [e1, e2, wrap_id' (x := 48 + ((u % 10 : Nat) : Int)) (by omega) (by omega), wrap_id' (x := ((u / 10 : Nat) : Int)) (by omega) (by omega)]
  refine ⟨?_, rfl⟩
  show _ = [((UInt8.ofNat (48 + u % 10)).toNat : Int)]
  rw [ofNat_dig (by omega)]
  congr 1
  omega
theorem digits_ev : ∀ (n u : Nat) (s : List UInt8), u ≤ n → u < 9223372036854775808 → s.length ≤ 1000000 → (s = [] ∨ 0 < u) → s.length + (Lib.decDigits u).length ≤ 1000000 → Ev (fun k => rookeryref15_digits.l0 k (u : Int) (arr s)) (arr (Lib.decDigits u ++ s))
  | n, u, s, hn, hu, hs, hsu, hlen => by
    obtain ⟨d1, d2⟩ := digit_one u hu
    have hsz : (strOfNums [(wrap64 (48 + Int.tmod (u : Int) 10)) % 256]).size = 1 := by
      rw [d1, str_numsU, arr_size]
      rfl
    have hroom : (strOfNums [(wrap64 (48 + Int.tmod (u : Int) 10)) % 256]).size + (arr s).size ≤ 9223372036854775807 := by
      rw [hsz, arr_size]
      omega
    have happ : strOfNums [(wrap64 (48 + Int.tmod (u : Int) 10)) % 256] ++ arr s = arr (UInt8.ofNat (48 + u % 10) :: s) := by
      rw [d1, str_numsU, arr_app]
      rfl
    have next : Ev (fun k => rookeryref15_digits.l0 k ((u / 10 : Nat) : Int) (arr (UInt8.ofNat (48 + u % 10) :: s))) (arr (Lib.decDigits u ++ s)) := by
      by_cases h : u < 10
      · have e : Lib.decDigits u = [UInt8.ofNat (48 + u % 10)] := by
          unfold Lib.decDigits
          rw [dif_pos h, Nat.mod_eq_of_lt h]
        have e0 : u / 10 = 0 := by omega
        rw [e, e0]
        refine Ev.succ ?_
        simp only [rookeryref15_digits.l0, arr_toList]
        exact Ev.iteF (by simp) (Ev.iteF (by omega) (Ev.pure _))
      · have e : Lib.decDigits u = Lib.decDigits (u / 10) ++ [UInt8.ofNat (48 + u % 10)] := by
          conv => lhs; unfold Lib.decDigits
          rw [dif_neg h]
        rw [e, List.length_append] at hlen
        simp only [List.length_cons, List.length_nil] at hlen
        have hn' : u / 10 < u := by omega
        match n, hn with
        | 0, hn => omega
        | n + 1, hn =>
          have IH := digits_ev n (u / 10) (UInt8.ofNat (48 + u % 10) :: s) (by omega) (by omega) (by simp only [List.length_cons]; omega) (.inr (by omega)) (by simp only [List.length_cons]; omega)
          rw [e, List.append_assoc, List.singleton_append]
          exact IH
    refine Ev.succ ?_
    simp only [rookeryref15_digits.l0, arr_toList, Option.bind_some, happ, d2]
    by_cases h0 : s = []
    · exact Ev.iteT h0 (Ev.iteT hroom next)
    · exact Ev.iteF h0 (Ev.iteT (by have := hsu.resolve_left h0; omega) (Ev.iteT hroom next))
theorem hexC_bt : ∀ n : Nat, n < 16 → bt (⟨#[48, 49, 50, 51, 52, 53, 54, 55, 56, 57, 97, 98, 99, 100, 101, 102]⟩ : ByteArray) (n : Int) = ((hexC n).toNat : Int) := by decide
theorem rd_cons (l : List Int) (n : Nat) (v : Int) (r : List Int) (h : l.drop n = v :: r) : rd l (n : Int) = v ∧ n < l.length ∧ l.drop (n + 1) = r := by
  have hl : n < l.length := by
    rcases Nat.lt_or_ge n l.length with h1 | h1
    · exact h1
    · rw [List.drop_eq_nil_of_le h1] at h; cases h
  have h2 := List.drop_eq_getElem_cons hl
  rw [h] at h2
  obtain ⟨e1, e2⟩ := List.cons.inj h2
  refine ⟨?_, hl, e2.symm⟩
  unfold rd
  rw [show (n : Int).toNat = n from rfl, List.getD_eq_getElem?_getD, List.getElem?_eq_getElem hl, e1]
  rfl
theorem numsU_app (a b : List UInt8) : numsU (a ++ b) = numsU a ++ numsU b := by simp [numsU]
theorem numsU_len (a : List UInt8) : (numsU a).length = a.length := by simp [numsU]
theorem spQ_bound : ∀ l : List Int, (spQ l).length ≤ 4 * l.length := spQ_len
theorem rspell_ev (b : List Int) (hb : ∀ v ∈ b, 0 ≤ v ∧ v < 256) (hl : b.length ≤ 65536) (x0 : Int) (x1 : ByteArray) (x2 x4 : Int) : ∀ (r : List Int) (n : Nat) (L : List UInt8), b.drop n = r → L.length + 4 * r.length ≤ 1000000 →
    Ev (fun k => rookeryref15_Spell.l0 k (numsU L) (n : Int) x0 x1 x2 b x4) (arr (L ++ spQ r ++ [34]))
  | [], n, L, h, hL => by
    have hz := List.drop_eq_nil_iff.mp h
    refine Ev.succ ?_
    simp only [rookeryref15_Spell.l0, numsU_len]
    simp only [List.length_nil] at hL
    refine Ev.iteF (by omega) (Ev.iteT (by omega) ?_)
    have e : numsU L ++ [34] = numsU (L ++ spQ [] ++ [34]) := by
      rw [numsU_app, numsU_app]
      simp [spQ, numsU]
    rw [e, str_numsU]
    exact Ev.pure _
  | v :: r, n, L, h, hL => by
    obtain ⟨r1, r2, r3⟩ := rd_cons b n v r h
    have hv := hb v (List.mem_of_mem_drop (by rw [h]; simp))
    simp only [List.length_cons] at hL
    have w1 := Lib.hid (show wrap64 ((n : Int) + 1) = ((n + 1 : Nat) : Int) from wrapN (by omega))
    have IH : ∀ (c : List UInt8), spC v = c → c.length ≤ 4 → Ev (fun k => if L.length + c.length < 140737488355328 then rookeryref15_Spell.l0 k (numsU L ++ numsU c) ((n + 1 : Nat) : Int) x0 x1 x2 b x4 else none) (arr (L ++ spQ (v :: r) ++ [34])) := by
      intro c hc hc4
      refine Ev.iteT (by omega) ?_
      have := rspell_ev b hb hl x0 x1 x2 x4 r (n + 1) (L ++ c) r3 (by rw [List.length_append]; omega)
      rw [numsU_app] at this
      have e : L ++ spQ (v :: r) ++ [34] = L ++ c ++ spQ r ++ [34] := by
        rw [← hc]
        simp [spQ]
      rw [e]
      exact this
    have hof := ofI_nat hv.1 hv.2
    refine Ev.succ ?_
    simp only [rookeryref15_Spell.l0, r1, Option.bind_some, w1.out, numsU_len]
    refine Ev.iteT (by omega) (Ev.iteT (by omega) ?_)
    by_cases v1 : v = 10
    · exact Ev.iteT v1 (IH [92, 110] (by unfold spC; rw [if_pos v1]) (by decide))
    refine Ev.iteF v1 ?_
    by_cases v2 : v = 9
    · exact Ev.iteT v2 (IH [92, 116] (by unfold spC; rw [if_neg v1, if_pos v2]) (by decide))
    refine Ev.iteF v2 ?_
    by_cases v3 : v = 34 ∨ v = 92
    · have J : Ev (fun k => rookeryref15_Spell.j2 k (numsU L) (n : Int) v true x0 x1 x2 b x4) (arr (L ++ spQ (v :: r) ++ [34])) := by
        refine Ev.succ ?_
        simp only [rookeryref15_Spell.j2, Option.bind_some, w1.out, numsU_len]
        refine Ev.iteT trivial ?_
        have := IH [92, ofI v] (by unfold spC; rw [if_neg v1, if_neg v2, if_pos v3]) (show 2 ≤ 4 by decide)
        have e : numsU [92, ofI v] = [92, v] := by
          show [((92 : UInt8).toNat : Int), ((ofI v).toNat : Int)] = [92, v]
          rw [hof]
          rfl
        rw [e] at this
        exact this
      by_cases v4 : v = 34
      · exact Ev.iteT v4 J
      · refine Ev.iteF v4 ?_
        rw [show (v == 92) = true by simpa using v3.resolve_left v4]
        exact J
    refine Ev.iteF (fun e => v3 (.inl e)) ?_
    rw [show (v == 92) = false by simpa using fun e => v3 (.inr e)]
    refine Ev.succ ?_
    have hbt : rookeryref15_between.f v 32 126 = some (decide (32 ≤ v) && decide (v ≤ 126)) := by
      unfold rookeryref15_between.f
      by_cases h : 32 ≤ v
      · rw [if_pos h]
        simp [h]
      · rw [if_neg h]
        simp [h]
    simp only [rookeryref15_Spell.j2, hbt, Option.bind_some, w1.out, numsU_len]
    refine Ev.iteF (by simp) ?_
    by_cases v5 : 32 ≤ v ∧ v ≤ 126
    · refine Ev.iteT (by simp [v5]) ?_
      have := IH [ofI v] (by unfold spC; rw [if_neg v1, if_neg v2, if_neg v3, if_pos v5]) (show 1 ≤ 4 by decide)
      have e : numsU [ofI v] = [v] := by
        show [((ofI v).toNat : Int)] = [v]
        rw [hof]
      rw [e] at this
      obtain ⟨k0, this⟩ := this
      refine ⟨k0, fun k hk => ?_⟩
      have := this k hk
      dsimp only at this ⊢
      rw [if_pos (show L.length + [ofI v].length < 140737488355328 by simp only [List.length_cons, List.length_nil]; omega)] at this
      rw [if_pos (show L.length < 140737488355328 by omega)]
      exact this
    · refine Ev.iteF (by
        intro h
        simp only [Bool.and_eq_true, decide_eq_true_eq] at h
        exact v5 h) ?_
      obtain ⟨m, rfl⟩ := Int.eq_ofNat_of_zero_le hv.1
      have e1 : Int.tdiv (m : Int) 16 = ((m / 16 : Nat) : Int) := rfl
      have e2 : Int.tmod (m : Int) 16 = ((m % 16 : Nat) : Int) := rfl
      have e3 : ((m / 16 : Nat) : Int) % 256 = ((m / 16 : Nat) : Int) := by omega
      simp only [e1, e2, e3]
      refine Ev.iteT (by omega) (Ev.iteT (by omega) (Ev.iteT (by omega) (Ev.iteT (by omega) ?_)))
      have := IH [92, 120, hexC (m / 16), hexC (m % 16)] (by
        unfold spC
        rw [if_neg v1, if_neg v2, if_neg v3, if_neg v5, show ((m : Int) / 16).toNat = m / 16 by omega, show ((m : Int) % 16).toNat = m % 16 by omega]) (Nat.le_refl _)
      have e : numsU [92, 120, hexC (m / 16), hexC (m % 16)] = [92, 120, ((hexC (m / 16)).toNat : Int), ((hexC (m % 16)).toNat : Int)] := rfl
      rw [e] at this
      rw [hexC_bt _ (by omega), hexC_bt _ (by omega)]
      exact this
theorem rspell_all (kd : Int) (s : ByteArray) (n : Int) (b : List Int) (p : Int) (hb : ∀ v ∈ b, 0 ≤ v ∧ v < 256) (hl : b.length ≤ 65536) (hn : n ≤ 9223372036854775807) : Ev (fun k => rookeryref15_Spell.f k kd s n b p) (spellA kd s n b) := by
  have J : ∀ (a1 a2 a4 : Int) (c : Bool), (c = true → spellA kd s n b = s) → (c = false → spellA kd s n b = if kd = 4 then arr (34 :: (spQ b ++ [34])) else ⟨#[]⟩) → Ev (fun k => rookeryref15_Spell.j0 k kd c a1 s a2 b a4) (spellA kd s n b) := by
    intro a1 a2 a4 c h1 h2
    refine Ev.succ ?_
    simp only [rookeryref15_Spell.j0]
    cases c with
    | true =>
      rw [h1 rfl]
      exact Ev.iteT rfl (Ev.pure _)
    | false =>
      rw [h2 rfl]
      refine Ev.iteF (by simp) ?_
      by_cases h4 : kd = 4
      · rw [if_pos h4]
        refine Ev.iteT h4 ?_
        have := rspell_ev b hb hl a1 s a2 a4 b 0 [34] rfl (by simp only [List.length_cons, List.length_nil]; omega)
        exact this
      · rw [if_neg h4]
        exact Ev.iteF h4 (Ev.pure _)
  unfold rookeryref15_Spell.f
  by_cases h1 : kd = 1
  · refine Ev.iteT h1 ?_
    unfold spellA
    rw [if_neg (by omega), if_pos h1]
    by_cases h0 : n < 0
    · rw [if_pos h0]
      exact Ev.iteF (by omega) (Ev.pure _)
    · rw [if_neg h0]
      obtain ⟨u, rfl⟩ := Int.eq_ofNat_of_zero_le (Int.not_lt.mp h0)
      have hu : u < 9223372036854775808 := by omega
      have D := digits_ev u u [] (Nat.le_refl _) hu (by simp) (.inl rfl) (by have := dec_short hu; simp only [List.length_nil]; omega)
      rw [List.append_nil] at D
      exact Ev.iteT (by omega) (Ev.bind (D.cast fun k => rfl) (Ev.pure _))
  refine Ev.iteF h1 ?_
  by_cases h2 : kd = 2
  · exact Ev.iteT h2 (J _ _ _ _ (fun _ => by unfold spellA; rw [if_neg (by omega), if_neg h1, if_pos (.inl h2)]) (fun e => by simp [h2] at e))
  refine Ev.iteF h2 ?_
  by_cases h3 : kd = 3
  · exact Ev.iteT h3 (J _ _ _ _ (fun _ => by unfold spellA; rw [if_neg (by omega), if_neg h1, if_pos (.inr (.inl h3))]) (fun e => by simp [h3] at e))
  refine Ev.iteF h3 ?_
  by_cases h5 : kd = 5
  · exact Ev.iteT h5 (J _ _ _ _ (fun _ => by unfold spellA; rw [if_neg (by omega), if_neg h1, if_pos (.inr (.inr (.inl h5)))]) (fun e => by simp [h5] at e))
  refine Ev.iteF h5 (J _ _ _ _ (fun e => ?_) (fun e => ?_))
  · have h6 : kd = 6 := by simpa using e
    unfold spellA
    rw [if_neg (by omega), if_neg h1, if_pos (.inr (.inr (.inr h6)))]
  · have h6 : ¬ kd = 6 := by simpa using e
    unfold spellA
    by_cases h4 : kd = 4
    · rw [if_pos h4, if_pos h4]
    · rw [if_neg h4, if_neg h1, if_neg (by simp [h2, h3, h5, h6]), if_neg h4]
end Go.Proofs.YtgkbmdlelcbmhaaDoor
