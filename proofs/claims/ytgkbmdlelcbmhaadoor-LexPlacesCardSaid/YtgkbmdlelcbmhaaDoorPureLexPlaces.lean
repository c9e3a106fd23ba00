/- lex, the plain law: LexPlaces, the pure statement. -/
import Derived.Test.YtgkbmdlelcbmhaaDoorLp6
import Derived.Test.YtgkbmdlelcbmhaaDoorLpC
import Derived.Test.YtgkbmdlelcbmhaaDoorLpE
import Derived.Test.YtgkbmdlelcbmhaaDoorPLexx8
namespace Go.Proofs.YtgkbmdlelcbmhaaDoor.Pure
open Go.RowKit Go.Proofs.YtgkbmdlelcbmhaaDoor Go.Proofs.YtgkbmdlelcbmhaaDoor.PLex Go.Proofs.YtgkbmdlelcbmhaaDoorW.PrintWords
set_option linter.all false

theorem places_loop (s : ByteArray) (hs : s.size ≤ 16384) (L : List S33) (hL : L.length ≤ 100000) : ∀ (r : List S33) (n b : Nat), L.drop n = r → Places s b r → (0 < n → (rd_T33 L ((n : Int) - 1)).f4 < (b : Int)) →
    Ev (fun k => rookerylaw15_LexPlaces.l0 k s L (n : Int)) true
  | [], n, b, h, hp, hb => by
    have := List.drop_eq_nil_iff.mp h
    refine Ev.succ ?_
    simp only [rookerylaw15_LexPlaces.l0]
    exact Ev.iteF (by omega) (Ev.pure _)
  | t :: r, n, b, h, hp, hb => by
    obtain ⟨h1, h2, h3⟩ := rd_at L n t r h
    obtain ⟨a, ha, ⟨p1, p2, p3, p4⟩, hr⟩ := hp
    have e1 : wrap64 ((n : Int) - 1) = (n : Int) - 1 := by unfold wrap64; omega
    have e2 : wrap64 ((n : Int) + 1) = ((n + 1 : Nat) : Int) := wrapN (by omega)
    have IH := places_loop s hs L hL r (n + 1) (a + 1) h3 hr (fun _ => by
      rw [show ((n + 1 : Nat) : Int) - 1 = (n : Int) by omega, h1, p1]
      omega)
    have J2 : Ev (fun k => rookerylaw15_LexPlaces.j2 k s L (n : Int) (a : Int) false) true := by
      refine Ev.succ ?_
      simp only [rookerylaw15_LexPlaces.j2, h1, e2]
      refine Ev.iteF (by simp) (Ev.iteT (by omega) (Ev.iteT (by omega) ?_))
      by_cases h4 : t.f0 = 4
      · exact Ev.iteT h4 (Ev.iteT (by omega) (Ev.iteT (by omega) (Ev.iteT (p4 h4) IH)))
      · exact Ev.iteF h4 IH
    have J1 : Ev (fun k => rookerylaw15_LexPlaces.j1 k s L (n : Int) (a : Int) false) true := by
      refine Ev.succ ?_
      simp only [rookerylaw15_LexPlaces.j1, h1]
      refine Ev.iteF (by simp) (Ev.iteT (by omega) (Ev.iteT (by omega) ?_))
      rcases p3 with p3 | ⟨p3, p5⟩
      · exact Ev.iteF (by omega) J2
      · have e3 : wrap64 ((a : Int) + (t.f1.size : Int)) = ((a + t.f1.size : Nat) : Int) := by unfold wrap64; omega
        by_cases hz : (t.f1.size : Int) > 0
        · refine Ev.iteT hz ?_
          rw [e3]
          refine Ev.iteF (by omega) (Ev.iteT (by omega) (Ev.iteT (by omega) (Ev.iteT (by omega) ?_)))
          rw [show ((a : Int)).toNat = a from rfl, show (((a + t.f1.size : Nat) : Int)).toNat = a + t.f1.size from rfl, p5]
          rw [show ((t.f1.toList != t.f1.toList) = false) by simp]
          exact J2
        · exact Ev.iteF hz J2
    refine Ev.succ ?_
    simp only [rookerylaw15_LexPlaces.l0, h1, p1, e1]
    refine Ev.iteT (by omega) (Ev.iteT (by omega) (Ev.iteF (by omega) (Ev.iteF (by omega) ?_)))
    by_cases hn : (n : Int) > 0
    · refine Ev.iteT hn (Ev.iteT (by omega) (Ev.iteT (by omega) ?_))
      have := hb (by omega)
      have e4 : decide ((a : Int) ≤ (rd_T33 L ((n : Int) - 1)).f4) = false := decide_eq_false (by omega)
      rw [e4]
      exact J1
    · exact Ev.iteF hn J1
theorem LexPlaces : rookerylaw15_LexPlaces.Pure := by
  intro s _
  refine Ev.ex (a := true) ?_
  unfold rookerylaw15_LexPlaces.f
  refine Ev.bind alive_ev (Ev.iteT rfl (Ev.bind (scan_all s) ?_))
  have hl := scanA_len s
  unfold scanA at hl ⊢
  by_cases h : 16384 < s.size
  · rw [if_pos h]
    refine Ev.iteF (by simp) (Ev.iteT (by simp) ?_)
    exact ⟨0, fun _ _ => by simp⟩
  · rw [if_neg h] at hl ⊢
    have P := scan_places s (s.size + 1) 0 0 s.data.toList (by simp) (by omega)
    by_cases h2 : (scanL (s.size + 1) 0 0 s.data.toList).2.2 = 0
    · rw [if_pos h2] at hl ⊢
      exact Ev.iteT rfl (places_loop s (by omega) _ (Nat.le_trans hl (by decide)) _ 0 0 rfl (P.1 h2) (fun e => by omega))
    · rw [if_neg h2]
      obtain ⟨a, p1, p2⟩ := P.2 h2
      refine Ev.iteF h2 ?_
      dsimp only
      rw [p1]
      refine Ev.iteT (by omega) ?_
      exact ⟨0, fun _ _ => by simp; omega⟩
end Go.Proofs.YtgkbmdlelcbmhaaDoor.Pure
